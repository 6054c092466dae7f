/- ChainDies: a part of its proof; conditions: its statement's. -/
import Derived.Test.YtefepnnfphdkpaaGreatH04
set_option linter.defProp false
namespace Go.Proofs.YtefepnnfphdkpaaGreat.Am
open Go
def lu:=@Tryz.underlying26
def sQ:=@Tryz.underlying24
def Jg:=@Tryz.func145
def Jh:=@Tryz.func33
def Ji:=@Tryz.func84
variable {X Y:aL} {C:fc} {δ rZ:Dk} {ε af:aX} {A:aX→aL} {lv dd:aX→Prop} {es:cn} {f:Fm} {cl:Go.Call} {h:H} {e n:Int} {μ:Lg} {d:List (Int×(Nat×Bool))} {now bL:List (Int×List Nat)} {cs:List (List Nat)} {E:List (Nat×V)} {S:List aL} {ks:List Int} {seen b c l data dX R HR c' M:List Nat} {r k q dg id j a i g aC o aO z tx pv nx N K B link extra off mJ:Nat} {y:Operand} {π bR:Pl} {P:Program} {α:Type} {t kt et:TypeId} {x wh di u kv dt rv:V}
def oK : V→Bool
 |.agg [_,.bool b]=>b
 |_=>true
def nO (seen:List Nat)(e:Int×V×Nat): Bool := !inL seen e.2.2||oK e.2.1
theorem Oe : ∀ {l:cn},leftV seen ((l.filter (nO seen)).map eR)=leftV seen (l.map eR):=by
 intro l
 induction l<;>grind[eR,nO,leftV]
theorem Of {b:Nat}: ∀ {l:cn},(∀e∈l,e.2.2≠b)→leftV (seen++[b]) (l.map eR)=leftV seen (l.map eR):=by
 intro l
 induction l<;>grind[eR,leftV,mw,eo]
theorem Og {c:Nat}: ∀ {l:cn} {b:Nat} {e:Int×V×Nat},fy c b l→e∈l→inL seen e.2.2=false→(leftV (seen++[e.2.2]) (l.map eR)).length+1=(leftV seen (l.map eR)).length:=by
 intro l
 induction l with
 |nil=>simp
 |cons y l ih =>
  intro b e I he hs
  have hm:(eR y).2.2=y.2.2:=rfl
  rcases List.mem_cons.1 he with rfl|he
  ·simp only[iE,leftV,hm,mw,hs,fP,Bool.or_true,aj,aY,bF]
   rw[Of fun e' J=>by have:=pW I.2.2 e' J;omega]
  ·have:=pW I.2.2 e he
   have:=ih I.2.2 he hs
   grind[leftV,mw,eo]
theorem TM : ∀ {l:cn},(∀e∈l,inL seen e.2.2=true)→l.filter (nO seen)=l.filter (fun e=>oK e.2.1):=by
 grind[List.filter_congr,nO]
theorem TN {l:cn}: l.filter (nO [])=l:=List.filter_eq_self.2 fun e _=>rfl
theorem TO {l:cn}{e:Int×V×Nat}{c b:Nat}(hb:fy c b l)(he:e∈l)(hf:oK e.2.1=true): l.filter (nO (seen++[e.2.2]))=l.filter (nO seen):=by
 refine ET fun e' J => ?_
 simp only[nO,mw]
 by_cases h:e.2.2=e'.2.2
 ·have I:=rj hb he
  have h2:=rj hb J
  rw[h,h2] at I
  have h3:e'.2.1=e.2.1:=by injection I with I;injection I with _ I;rw[I]
  rw[h3,hf];simp
 ·rw[eo h,Bool.or_false]
theorem Xw : ∀ {l:cn},(l.map (·.1)).Nodup→nH n l=l.filter (fun e=>decide (e.1≠n)):=by
 intro l
 induction l<;>grind[nH,List.filter_eq_self]
theorem Xx {l:cn}{e:Int×V×Nat}{c b:Nat}(hb:fy c b l)(hn:(l.map (·.1)).Nodup)(he:e∈l)(hf:oK e.2.1=false)(hs:inL seen e.2.2=false):
  l.filter (nO (seen++[e.2.2]))=nH e.1 (l.filter (nO seen)):=by
 rw[Xw (hn.sublist ((List.filter_sublist).map _)),List.filter_filter]
 refine ET fun I Dj => ?_
 simp only[nO,mw]
 have ad1:e.1=I.1↔e.2.2=I.2.2:=by
  have key:∀ {l:cn} {b:Nat},fy c b l→(l.map (·.1)).Nodup→e∈l→I∈l→(e.1=I.1↔e.2.2=I.2.2):=by
   intro l
   induction l with
   |nil=>simp
   |cons y l ih =>
    intro b hb hn J h2
    simp only[iE,EZ] at hn
    rcases List.mem_cons.1 J with q1|h3<;>rcases List.mem_cons.1 h2 with q2|h4
    ·grind
    ·have:=pW hb.2.2 I h4
     grind
    ·have:=pW hb.2.2 e h3
     grind
    ·exact ih hb.2.2 hn.2 h3 h4
  exact key hb hn he Dj
 by_cases h:e.2.2=I.2.2
 ·have J:=rj hb he
  have h2:=rj hb Dj
  rw[h,h2] at J
  have h3:I.2.1=e.2.1:=by injection J with J;injection J with _ J;rw[J]
  grind[Nat.beq_refl]
 ·grind[eo]
theorem AH {c:Nat}{f:Int×V×Nat→Bool}: ∀ {l:cn} {b:Nat},fy c b l→fy c b (l.filter f):=by
 intro l
 induction l with
 |nil=>simp
 |cons e l I =>
  intro b h
  simp only[EV]
  split
  ·exact⟨h.1,h.2.1,I h.2.2⟩
  ·exact DP (by have:=h.1;omega) (I h.2.2)
section
variable {told:cR} {p:Nat} {v:V} {m:List Fm}
theorem abv {n:Nat}{cs l:List V}(J:T.get h.tr id=some (.cells n cs false))(hs:bN P t=some l.length)(hl:cs.length=n)(hn:l.length=n)(I:l.all storable=true):
  gY P h t (.ptr id 0) (.agg l)=some (h.put id (some (.cells n l false))):=by
 grind[gY,V.cells,Nat.beq_refl,wrN,bg]
theorem Xy {k:IntKind}{c:Nat}{l:cn}{u:TypeId}(s:Sat h S)(hj:getA S j=some (gB id l c))(hu:P.underlying t=some (.map kt et))(hk:P.underlying kt=some (.int k)):
  ∃v h',builtinV P h .delete #[t,u] [.map id,.int .i64 n]=some (v,h')∧(fun(_:V) (h':H)=>h'.next=h.next∧(∀i,i≠id→T.get h'.tr i=T.get h.tr i)∧Sat h' (setA S j (gB id (nH n l) c))) v h':=by
 have hg:=s.row hj
 have key:∃h',ny P h t (.map id) (.int .i64 n)=some h'∧h'.next=h.next∧(∀i,i≠id→T.get h'.tr i=T.get h.tr i)∧Sat h' (setA S j (gB id (nH n l) c)):=by
  obtain⟨h',I,J⟩:=s.delete (n:=n) hj hu hk
  refine⟨h',I,?_⟩
  simp only[ny,hu,hk,hg,keyBeq,dx,aj,rV] at I
  cases hq:idxE n l 0 with
  |none =>
   grind
  |some q =>
   rw[hq] at I
   simp only[az] at I
   subst I
   exact⟨rfl,fun i hi=>by rw[dK,ak hi],J⟩
 obtain⟨h',I,J⟩:=key
 refine⟨.bf [],h',?_,J⟩<;>grind[builtinV]
theorem TP (I:W told){a:Int}{b:Bool}: Call ⟨Tryz.prog,told⟩ 146 [.int .i64 n,.agg [.int .u64 a,.bool b]] h fun v h'=>v=.bool (!b)∧h'=newRow h [.int .u64 a,.bool b]:=by
 refine Call.of_wp (I.free _ rfl) Tryz.func146 rfl rfl (zg rfl (zo rfl (fY rfl rfl) (zk 4 rfl (zf rfl (Fw _ _) (zl rfl (PY (off:=1) (n:=2) (cs:=[.int .u64 a,.bool b]) (st:=false) kZ (by grind[newRow,V.cells,gI]) rfl) ?_)))))
 exact zo rfl (er rfl rfl) (zk 2 rfl (WP.ret ⟨aa,_,rfl,rfl,rfl⟩))
noncomputable def dfA : Code:=cN [0] ((Tryz.f145.body).getD .skip)
noncomputable def Z0 : Code:=cN [1,0,0,0] ((Tryz.f145.body).getD .skip)
noncomputable def dfD : Code:=cN [1,0,0,1,1,0] ((Tryz.f145.body).getD .skip)
theorem TQ : Tryz.f145.body=some (.seq dfA (.block 0 (.loop (.seq Z0 (.seq (.cond (.tmp 9) .skip (.exit 0)) (.block 1 dfD)))))):=rfl
theorem Xz : ∃id I J,Z0=.region id #[I,J] false∧I.guard=none∧J.guard=none∧I.op=.next (.tmp 7) false∧I.dst=some 8∧J.op=.extract (.tmp 8) 0∧J.dst=some 9:=⟨_,_,_,rfl,rfl,rfl,rfl,rfl,rfl,rfl⟩
abbrev sR : V:=.fn (.func 146) [] []
def dfJ (h₀:H)(it mid clock:Nat)(es:cn)(S:List aL)(j:Nat)(E:List (Nat×V))(h:H): Prop :=
 ∃seen,Has E [(0,.map mid),(1,sR),(7,.ptr it 0)]∧j=(leftV seen (es.map eR)).length∧h.next+2*j=h₀.next+1+2*es.length∧(∀i,i<h₀.next→i≠mid→i≠it→T.get h.tr i=T.get h₀.tr i) ∧
  Sat h (pt it (.iter mid clock clock seen)::gB mid (es.filter (nO seen)) clock::S)
theorem TR {h₀:H}{it mid clock:Nat}(AE:it<h₀.next+1)(hb:fy clock 0 es)(hn:(es.map (·.1)).Nodup)(hv:∀e∈es,∃a b,e.2.1=.agg [.int .u64 a,.bool b])(h0:dfJ h₀ it mid clock es S j E h):
  WPO CB 19 (.loop (.seq Z0 (.seq (.cond (.tmp 9) .skip (.exit 0)) (.block 1 dfD)))) E h fun ex E' h'=>ex=.exit 0∧h'.next=h₀.next+1+2*es.length∧(∀i,i<h₀.next→i≠mid→i≠it→T.get h'.tr i=T.get h₀.tr i) ∧
   ∃seen,Sat h' (pt it (.iter mid clock clock seen)::gB mid (es.filter (fun e=>oK e.2.1)) clock::S):=by
 refine WPO.loop (dfJ h₀ it mid clock es S) ?_ h0
 rintro j E h ⟨seen,hE,rfl,rE,hs,s⟩
 have g1:=s.row (k:=0) rfl
 have g2:=s.row (k:=1) rfl
 have nU:=AH (f:=nO seen) hb
 obtain⟨id,M9,KB,q0,q1,q2,q3,q4,q5,q6⟩:=Xz
 refine WPO.seq ?_
 rw[q0]
 have hL:=next_at g1 (aU _) g2 nU
 refine WPO.next iy fF q1 q2 q3 q4 q5 rfl q6 rfl rfl (r:=it) ?_ hL fun q hq => ?_
 ·exact hE.2.2.1
 ·rcases Je g1 (aU _) g2 nU hL q hq with⟨rfl,qO⟩|⟨e,he,Mr,_,rfl⟩
  ·have ad2:∀e∈es,inL seen e.2.2=true:=fun e he=>by
    grind[nO]
   have xR:leftV seen (es.map eR)=[]:=by
    grind[Oe]
   refine⟨.bool false,[],rfl,?_⟩
   refine WPO.seq (WPO.cond (t:=false) rfl ?_)<;>grind[WPO.of,iy,fF,WP.exit,TM]
  ·refine⟨.bool true,_,rfl,?_⟩
   refine WPO.seq (WPO.cond (t:=true) rfl ?_)
   refine WPO.of iy fF (WP.skip ?_)
   refine WPO.block (WPO.of iy fF ?_)
   have I:=(List.mem_filter.1 he).1
   have tN:=Og hb I Mr
   have s:=s.put (o':=.iter mid clock clock (seen++[e.2.2])) (k:=0) rfl
   have hs:∀i,i<h₀.next→i≠mid→i≠it→T.get (h.put it (some (.iter mid clock clock (seen++[e.2.2])))).tr i=T.get h₀.tr i:=fun i h1 h2 h3=>by grind[dK]
   have rE:(h.put it (some (.iter mid clock clock (seen++[e.2.2])))).next+2*(leftV seen (es.map eR)).length=h₀.next+1+2*es.length:=rE
   have hle:h₀.next≤(h.put it (some (.iter mid clock clock (seen++[e.2.2])))).next:=by
    have:(leftV seen (es.map eR)).length≤(es.map eR).length:=by
     have:∀l:List (V×V×Nat),(leftV seen l).length≤l.length:=by
      intro l
      induction l<;>grind[leftV]
     exact this _
    grind
   generalize h.put it (some (.iter mid clock clock (seen++[e.2.2])))=h' at s hs rE hle
   have g1:=s.row (k:=0) rfl
   have g2:=s.row (k:=1) rfl
   obtain⟨a,b,oY⟩:=hv e I
   have J:=Jd g1 g2 nU he
   rw[oY] at J
   refine WP.has (F:=[(0,.map mid),(1,sR),(7,.ptr it 0),(9,.bool true)]) ⟨hE.1,hE.2.1,hE.2.2.1,rfl,aa⟩ (zg rfl (ax.any rfl rfl rfl (OpR.entry rfl rfl J) ?_))
   rintro v h ⟨rfl,rfl⟩
   refine zk 2 rfl (zo rfl (b6 ya) ?_)
   have s1:=s.new (.cells 2 [.int .u64 0,.bool false] false)
   have e1:=abv (P:=Tryz.prog) (t:=199) (l:=[.int .u64 a,.bool b]) (s1.row (k:=0) rfl) vu rfl rfl rfl
   have s2:=s1.put (o':=.cells 2 [.int .u64 a,.bool b] false) (k:=0) rfl
   refine za rfl (ax.Vn rfl rfl (wY rfl rfl e1) (zk 5 rfl (zl rfl (s2.dn (k:=0) rfl NN vu) (zc rfl (TP W.base (n:=e.1) (a:=a) (b:=b)) ?_))))
   rintro v h'' ⟨rfl,rfl⟩
   have s3:=s2.new (.cells 2 [.int .u64 a,.bool b] false)
   have lS:∀i,i<h₀.next→i≠mid→i≠it→T.get (newRow ((h.new (.cells 2 [.int .u64 0,.bool false] false)).put h.next (some (.cells 2 [.int .u64 a,.bool b] false))) [.int .u64 a,.bool b]).tr i=T.get h₀.tr i:=fun i h1 h2 h3=>by
    rw[newRow,gI,ak (by show i≠h.next+1;omega),dK,ak (by omega),gI,ak (by omega)]
    exact hs i h1 h2 h3
   refine zv ?_
   refine WP.split rfl ?_ ?_
   ·intro hq
    have sD:b=false:=by grind
    subst sD
    have s4:=(s3.ae [2,2])
    refine zK 3 rfl (ax.ij rfl rfl (OpR.builtin rfl rfl rfl (Xy (n:=e.1) s4 (j:=1) rfl uU bT)) ?_)
    rintro v h5 ⟨k1,k2,k3⟩
    refine zv ?_
    refine⟨_,?_,seen++[e.2.2],⟨rfl,rfl,rfl,aa⟩,rfl,?_,?_,?_⟩
    ·omega
    ·rw[k1]
     show h.next+1+1+_=_
     omega
    ·grind
    ·rw[Xx hb hn I (by rw[oY];rfl) Mr]
     exact(k3.del 3).del 2
   ·intro hq
    have sD:b=true:=by grind
    subst sD
    refine WP.skip ?_
    refine⟨_,?_,seen++[e.2.2],⟨rfl,rfl,rfl,aa⟩,rfl,?_,lS,?_⟩
    ·omega
    ·show h.next+1+1+_=_
     omega
    ·rw[TO hb I (by rw[oY];rfl)]
     exact(s3.del 1).del 0
end
def Jj (args:List V)(h:H)(r:V×H): Prop:=∃(mid:Nat) (es:cn) (clock:Nat),args=[.map mid,sR]∧T.get h.tr mid=some (.map (es.map eR) clock) ∧
 r=(.bf [],⟨h.next+1+2*es.length,(h.put mid (some (.map ((es.filter (fun e=>oK e.2.1)).map eR) clock))).tr⟩)
structure W2 (told:cR): Prop where
 w:W told
 sync:told 139=some (iZ Tryz.prog 139 FH)
 del:told 145=some (iZ Tryz.prog 145 Jj)
theorem Ms : ∀ {l m:cn},l.map eR=m.map eR→l=m:=by
 intro l
 induction l with
 |nil=>intro m h;cases m with
  |nil=>rfl
  |cons _ _=>cases h
 |cons e l J=>intro m h;cases m with
  |nil=>cases h
  |cons x m =>
   simp only[iE,List.cons.injEq] at h
   obtain⟨I,h2⟩:=h
   rw[J h2]
   obtain⟨e1,e2⟩:=e
   obtain⟨x1,x2⟩:=x
   simp only[eR,bJ,V.int.injEq,true_and] at I
   rw[I.1,I.2]
theorem Oh {a b:PM}: ∀ {l:cn} {m:List (Int×(Nat×Bool))},(eV (fun v x=>.pu (v=.agg [.int .u64 (x.1:Int),.bool x.2])) l m).p a b →
  (eV (fun v x=>.pu (v=.agg [.int .u64 (x.1:Int),.bool x.2])) (l.filter fun e=>oK e.2.1) (m.filter fun e=>e.2.2)).p a b:=by
 intro l
 induction l with
 |nil=>intro m h;cases m with
  |nil=>exact h
  |cons _ _=>exact h.elim
 |cons e l I=>intro m h;cases m with
  |nil=>exact h.elim
  |cons x m =>
   obtain⟨⟨h1,J⟩,h3⟩:=h
   have h4:e.2.1=.agg [.int .u64 (x.2.1:Int),.bool x.2.2]:=J
   have hf:oK e.2.1=x.2.2:=by rw[h4];rfl
   simp only[EV,hf]
   split
   ·exact⟨⟨h1,J⟩,I h3⟩
   ·exact I h3
def Dk.dQ (δ:Dk): Int×Dk:=if δ.dead=true then(9,δ) else if δ.aT=0 then(9,δ.die) else(0,δ.cV.sync)
section
variable {told:cR} {p:Nat} {v:V} {m:List (Int×(Nat×Bool))}
theorem uZ {a b:Obj}(J:T.get h.tr id=some a)(I:T.get h.tr id=some b): a=b:=by rw[J] at I;exact cA I
theorem Mt (hT:W2 told)(s:Sat h (aS p δ::S))(oI:δ.Ok)(hk:∀e∈δ.now,0≤e.1∧e.1<δ.aq.length): Call ⟨Tryz.prog,told⟩ 139 [.ptr p 0] h fun v h'=>v=.int .i64 δ.dQ.1∧Sat h' (aS p δ.dQ.2::S):=by
 obtain⟨r,h1,h2⟩:=QS s oI hk
 obtain⟨r,h3,h4⟩:=sP h1 h2
 refine⟨r.1,r.2,gO.told hT.sync Aw rfl h3,?_⟩
 clear h1 h2 h3
 obtain⟨p',cs,e1,gp',h4⟩:=h4
 injection e1 with e1 _
 injection e1 with e1 _
 subst e1
 obtain⟨pg,wt,nw,lg,mk,tn,tl,ops,s1⟩:=bI.1 s
 have gp:=s1.row (k:=0) rfl
 have e2:=uZ gp gp'
 injection e2 with _ e2 _
 subst e2
 rcases h4 with⟨hd,rfl⟩|⟨hd,v1,h1,Aa,h4⟩
 ·have hd:δ.dead=true:=by injection (cA hd)
  simp only[Dk.dQ,aP hd]
  exact⟨aa,s⟩
 ·have hd:δ.dead=false:=by injection (cA hd)
  obtain⟨v2,h2,acK,hR⟩:=qz W.base s oI.aT
  obtain⟨rfl,rfl⟩:=gO.det Aa acK
  simp only[Dk.dQ,hd,kN,fQ]
  rcases hR with⟨h0,rfl,s2⟩|⟨h0,rfl,s2⟩
  ·rcases h4 with⟨_,rfl⟩|⟨hv,_⟩
   ·rw[aP h0];exact⟨rfl,s2⟩
   ·cases hv
  ·rcases h4 with⟨hv,_⟩|⟨_,cs,im,N,row,mid,es,clock,g0,c1,c3,g1,g2,rfl⟩
   ·cases hv
   ·rw[ak h0]
    refine⟨rfl,?_⟩
    obtain⟨pg,wt,nw,lg,mk,tn,tl,ops,s3⟩:=bI.1 s2
    obtain⟨im',row',rfl,s4⟩:=gS.1 (s3.ae [1])
    obtain⟨J,es',I,rfl,hb,hn,s5⟩:=eM.1 (s4.ae [4])
    have s6:=s5.ae [4,2,0,0,0,0]
    have e3:=uZ (s6.row (k:=0) rfl) g0
    injection e3 with _ e3 _
    subst e3
    have c1:=cA c1
    injection c1 with c1 _ c2 _
    subst c1;subst c2
    have c3:=cA c3
    injection c3 with c3
    subst c3
    have e4:=uZ (s6.row (k:=1) rfl) g1
    injection e4 with _ e4 _
    subst e4
    have e5:=uZ (s6.row (k:=2) rfl) g2
    injection e5 with e5 e6
    have e5:=Ms e5
    subst e5;subst e6
    have s7:=s6.new (.iter J I I [])
    have s8:=s7.put (o':=.cells δ.cV.aq.length (og es' row') false) (k:=2) rfl
    have s9:=s8.put (o':=.cells 12 (List.set (xb δ.cV.room (.sl im' 0 δ.cV.aq.length (.exact δ.cV.aq.length)) wt (.map J) lg δ.cV.bj mk δ.cV.aT ops δ.cV.dead tn tl) 2 .a_) false) (k:=1) rfl
    have s10:=s9.put (o':=.map [] I) (k:=3) rfl
    have s11:=s10.kill
    have s12:Sat _ (each lp row' δ.cV.aq::eV (fun v b=>.bY v b) es' δ.cV.now::_):=s11.ae [4,3]
    have s13:=s12.two (C:=each lp (og es' row') (laidP δ.cV.now δ.cV.aq)) (aV.each aV.lp _ _) (aV.IN (fun _ _=>aV.bY _ _) _ _) fun a b q1 q2=>K9 q2 (fun e he=>by
     have:=oI.now e he
     rintro hq;rw[hq] at this;simp at this) q1
    have s14:=(eM (f:=fun v b=>.bY v b) (v:=.map J) (m:=([]:List (Int×List Nat)))).2 ⟨J,[],I,rfl,aa,kq,((s13.ae [3]).gD aa).ae [1,0]⟩
    have hlen:(laidP δ.cV.now δ.cV.aq).length=δ.cV.aq.length:=oh
    have s15:=gS.2 ⟨im',og es' row',rfl,by rw[hlen];exact s14.ae [3,1]⟩
    rw[hlen] at s15
    have s16:=(mL (v:=.a_) (m:=[])).2 ⟨[],((s15.del 3).gD aa).m6⟩
    exact bI.2 ⟨_,_,_,_,_,_,_,ops,s16.ae [3,1,0,0]⟩
theorem TS (s:Sat h (D2 di m::S)): ∃r,Jj [di,sR] h r∧∀(c:Ctx) (w:World),Rel c h w→(∀x∈[di,sR],wf c x)→eZ Tryz.prog 145 [di,sR] c w r.1 r.2:=by
 obtain⟨mid,es,clock,rfl,hb,hn,s1⟩:=eM.1 s
 have gm:=s1.row (k:=0) rfl
 obtain⟨a,b,_,_,q3⟩:=s1.at (k:=1) rfl
 have I:=tR q3
 have hv:∀e∈es,∃a b,e.2.1=.agg [.int .u64 a,.bool b]:=fun e he=>by
  obtain⟨x,_,k2⟩:=AG q3 e he
  exact⟨_,_,k2⟩
 refine⟨_,⟨mid,es,clock,rfl,gm,rfl⟩,fun c w hr ha => ?_⟩
 refine eZ.D5 (C:=CB) (args:=[.map mid,sR]) Jg TQ (show 2≤Tryz.f145.ntmps by decide) ?_ hr ha
 refine WPO.seq (WPO.of iy fF ?_)
 have s:=s1
 refine zK 2 rfl (ax.any rfl rfl rfl (OpR.range rfl rfl (show rangeV Tryz.prog h 187 (.map mid)=some (.ptr h.next 0,h.new (.iter mid clock clock [])) by simp only[rangeV,uU,gm])) ?_)
 rintro v h' ⟨rfl,rfl⟩
 refine zv ?_
 have s7:=s.new (.iter mid clock clock [])
 refine WPO.block ((TR (h₀:=h) (es:=es) (it:=h.next) (mid:=mid) (clock:=clock) (S:=eV (fun v (x:Nat×Bool)=>.pu (v=.agg [.int .u64 (x.1:Int),.bool x.2])) es m::S) (by omega) hb (by rw[I];exact hn) hv ⟨[],⟨rfl,rfl,rfl,aa⟩,rfl,?_,?_,?_⟩).mono ?_)
 ·have:(leftV [] (es.map eR)).length=es.length:=by
   have:∀l:List (V×V×Nat),leftV [] l=l:=by
    intro l
    induction l with
    |nil=>rfl
    |cons y l ih=>simp only[leftV,inL,aY,ih]
   rw[this,jl]
  rw[this]
  rfl
 ·intro i J h2 h3
  rw[gI,ak h3]
 ·rw[TN];exact s7
 ·rintro ex E' h' ⟨rfl,rE,hs,seen,s'⟩
  refine⟨aa,rfl,rE.symm,fun id o ho => ?_⟩
  rw[dK] at ho
  by_cases J:id=mid
  ·rw[aP J] at ho;rw[J,s'.row (k:=1) rfl];exact ho
  ·rw[ak J] at ho
   have:=s.wf id o ho
   rw[hs id this J (by omega)]
   exact ho
theorem Z1 (hT:W2 told)(s:Sat h (D2 di m::S)): Call ⟨Tryz.prog,told⟩ 145 [di,sR] h fun v h'=>v=.bf []∧Sat h' (D2 di (m.filter fun e=>e.2.2)::S):=by
 obtain⟨r,h1,h2⟩:=TS s
 obtain⟨r,h3,h4⟩:=sP h1 h2
 refine⟨r.1,r.2,gO.told hT.del Jg rfl h3,?_⟩
 clear h1 h2 h3
 obtain⟨mid,es,clock,e1,g1,rfl⟩:=h4
 injection e1 with e1 _
 subst e1
 refine⟨rfl,?_⟩
 obtain⟨aej,es',I,e2,hb,hn,s1⟩:=eM.1 s
 injection e2 with e2
 subst e2
 have J:=uZ (s1.row (k:=0) rfl) g1
 injection J with J e4
 have J:=Ms J
 subst J;subst e4
 have s2:Sat h (eV _ es' m::gB mid es' I::S):=s1.ae [1]
 have s3:=s2.gK (B:=eV (fun v x=>.pu (v=.agg [.int .u64 (x.1:Int),.bool x.2])) (es'.filter fun e=>oK e.2.1) (m.filter fun e=>e.2.2)) fun a b q=>Oh q
 have s4:=s3.put (o':=.map ((es'.filter fun e=>oK e.2.1).map eR) I) (k:=1) rfl
 have s5:=s4.kH (k:=1+2*es'.length) (h':=⟨h.next+1+2*es'.length,(h.put mid (some (.map ((es'.filter fun e=>oK e.2.1).map eR) I))).tr⟩)
  ⟨fun id o ho=>by have h1:=s4.wf id o ho;have h2:(h.put mid (some (.map ((es'.filter fun e=>oK e.2.1).map eR) I))).next=h.next:=rfl;show id<h.next+1+2*es'.length;omega,
   by show h.next≤h.next+1+2*es'.length;omega,by show h.next+1+2*es'.length≤h.next+(1+2*es'.length);omega,fun _ _ _=>rfl⟩
 exact eM.2 ⟨mid,es'.filter (fun e=>oK e.2.1),I,rfl,AH hb,hn.sublist ((List.filter_sublist).map _),s5.ae [1,0]⟩
def dM (π:Pl)(δ:Dk): Int×Pl×Dk:=if δ.dQ.1≠0 then(δ.dQ.1,π,δ.dQ.2) else(0,{ π with br:=π.br.filter fun e=>e.2.2 },δ.dQ.2)
theorem TT (I:W2 told)(s:Sat h (dO r p q π::aS p δ::S))(J:δ.Ok)(hk:∀e∈δ.now,0≤e.1∧e.1<δ.aq.length):
  Call ⟨Tryz.prog,told⟩ 93 [.ptr r 0] h fun v h'=>v=.int .i64 (dM π δ).1∧Sat h' (dO r p q (dM π δ).2.1::aS p (dM π δ).2.2::S):=by
 obtain⟨dg,wh,di,s⟩:=d_.1 s
 refine Call.of_wp (I.w.free _ rfl) Tryz.func93 rfl rfl (zK 9 rfl (zY s 0 w_ pP rfl (zc rfl (Mt I (s.ae [4]) J hk) ?_)))
 rintro v h ⟨rfl,s⟩
 refine zk 5 rfl ?_
 by_cases he:δ.dQ.1=0
 ·skip
  refine zC rfl aE (by simp;exact he) ?_
  refine zk 7 rfl (zY s 1 rS x_ rfl (zc rfl (Z1 I (s.ae [4])) ?_))
  rintro v h ⟨rfl,s⟩
  refine zk 5 rfl (WP.ret ⟨aa,_,rfl,?_⟩)
  rw[dM,ak (by simpa using he)]
  exact⟨rfl,(d_.2 ⟨dg,wh,di,s.ae [2,2,2,0,0]⟩)⟩
 ·skip
  refine zB rfl aE (by simp;exact he) ?_
  refine zk 7 rfl (WP.ret ⟨aa,_,rfl,?_⟩)
  rw[dM,aP he]
  exact⟨rfl,(d_.2 ⟨dg,wh,di,s.ae [1,1,1,1,0]⟩)⟩
end
theorem f_.ai (I:f_ π bR): ∀g∈bR.ai,∃f∈π.ai,∃t,g={ f with gz:=t }:=by
 intro g hg
 obtain⟨i,hi,rfl⟩:=List.mem_iff_getElem.1 hg
 have hf:π.ai[i]?=some (π.ai[i]'(by rw[←I.len];exact hi)):=bx _
 obtain⟨t,J⟩:=I.get i _ hf
 rw[bx hi] at J
 exact⟨_,Ba _,t,cA J⟩
theorem f_.ok (I:f_ π bR)(h:π.Ok)(hh:bR.hand<bR.ai.length): bR.Ok:=by
 refine⟨hh,by rw[I.len];exact h.many,by rw[I.aH,I.len];exact h.aH,fun g J => ?_,fun g J => ?_⟩
 ·obtain⟨f,hf,t,rfl⟩:=I.ai g J
  exact h.len f hf
 ·obtain⟨f,hf,t,rfl⟩:=I.ai g J
  exact h.pins f hf
theorem Pl.Ok.set {w:List (Int×Int)}(h:π.Ok)(hw:∀e∈w,0≤e.2∧e.2<π.ai.length)(J:f.b.length≤512)(hp:0≤f.pins∧f.pins≤4294967296): Pl.Ok { π with ai:=π.ai.set i f,aH:=w,br:=d }:=by
 refine⟨by simp only[dJ];exact h.hand,by simp only[dJ];exact h.many,fun e he=>by simp only[dJ];exact hw e he,fun g I => ?_,fun g I => ?_⟩
 ·rcases qb I with I|rfl
  ·exact h.len g I
  ·exact J
 ·rcases qb I with I|rfl
  ·exact h.pins g I
  ·exact hp
theorem XA : ∀ {l:List (Int×α)} {e:Int×α},e∈oU n l→e∈l:=by
 intro l
 induction l with
 |nil=>intro e h;exact h
 |cons x l I =>
  intro e h
  simp only[oU] at h
  split at h
  ·exact b8 _ h
  ·rcases List.mem_cons.1 h with rfl|h
   ·exact bZ
   ·exact b8 _ (I h)
theorem XB {x:α}: ∀ {l:List (Int×α)} {e:Int×α},e∈cD n x l→e=(n,x)∨e∈l:=by
 intro l
 induction l with
 |nil=>intro e h;simp only[cD,List.mem_singleton] at h;exact .inl h
 |cons y l I =>
  intro e h
  simp only[cD] at h
  split at h
  ·rcases List.mem_cons.1 h with rfl|h
   ·exact .inl rfl
   ·exact .inr (b8 _ h)
  ·rcases List.mem_cons.1 h with rfl|h
   ·exact .inr bZ
   ·rcases I h with h|h
    ·exact .inl h
    ·exact .inr (b8 _ h)
theorem CK (h:π.Ok): (dF π i f).Ok:=by
 unfold dF
 refine h.set (fun e he => ?_) (by simp[fA]) (by simp[fA])
 split at he
 ·exact h.aH e he
 ·exact h.aH e (XA he)
theorem fE.ok (hr:fE ε n e b af)(h:rX ε)(hp:∀f∈ε.1.ai,f.pins=0): rX af:=by
 cases hr with
 |arg _=>exact h
 |AE i f h1 h2 hl hf =>
  have hm:=bD hf
  exact⟨h.pl.set h.pl.aH (h.pl.len f hm) (by have:=hp f hm;simp only;omega),h.lg,h.dk⟩
 |out bR i f h1 h2 hl I hf J he=>exact rY (ε:=(bR,ε.2)) ⟨I.ok h.pl J,h.lg,h.dk⟩
 |read bR i f h1 h2 hl I hf J he hr =>
  have:=rY (i:=i) (ε:=(bR,ε.2)) ⟨I.ok h.pl J,h.lg,h.dk⟩
  exact⟨CK this.pl,this.lg,this.dk⟩
 |bad bR i f h1 h2 hl I hf J he hr hc =>
  have:=rY (i:=i) (ε:=(bR,ε.2)) ⟨I.ok h.pl J,h.lg,h.dk⟩
  exact⟨CK this.pl,this.lg,this.dk⟩
 |load bR i f h1 h2 hl I hf J he hr hc =>
  have:=rY (i:=i) (ε:=(bR,ε.2)) ⟨I.ok h.pl J,h.lg,h.dk⟩
  have h3:=CK (i:=i) (f:=f) this.pl
  have hlen:i<(dF (outF (bR,ε.2) i).2.1 i f).ai.length:=by
   obtain⟨c,hc⟩:=oJ (ε:=(bR,ε.2)) hf
   have:=(List.getElem?_eq_some_iff.1 hc).1
   simpa[dF] using this
  refine⟨h3.set (fun e he => ?_) (by simp only;rw[this.dk.at];omega) (by simp),this.lg,this.dk⟩
  rcases XB he with rfl|he
  ·simp only;omega
  ·exact h3.aH e he
theorem GK (h:π.Ok): (unpinF π n).2.Ok:=by
 unfold unpinF
 split
 ·exact h
 ·rename_i i hi
  split
  ·exact h
  ·rename_i f I
   have hm:=bD I
   refine h.set h.aH (h.len f hm) ?_
   have:=h.pins f hm
   have J:f.pins≠0:=by
    unfold heldI at hi
    split at hi
    ·cases hi
    ·split at hi
     ·cases hi
     ·rename_i g hg
      split at hi
      ·cases hi
      ·rename_i hp
       have:=cA hi
       subst this
       rw[hg] at I
       have:=cA I
       subst this
       exact hp
   simp only;omega
inductive my (ε:aX)(n:Int): Int→List Nat→aX→Prop where
 |dead (h:ε.2.2.dead=true):my ε n 9 [] ε
 |jj (e:Int) (b:List Nat) (af:aX) (h:ε.2.2.dead=false) (hr:fE ε n e b af) (he:e≠0):my ε n e [] af
 |tU (b:List Nat) (af:aX) (h:ε.2.2.dead=false) (hr:fE ε n 0 b af) (he:(unpinF af.1 n).1≠0):my ε n (unpinF af.1 n).1 [] ((unpinF af.1 n).2,af.2)
 |read (b:List Nat) (af:aX) (h:ε.2.2.dead=false) (hr:fE ε n 0 b af) (he:(unpinF af.1 n).1=0):my ε n 0 b ((unpinF af.1 n).2,af.2)
theorem my.ok (I:my ε n e b af)(h:rX ε)(J:∀f∈ε.1.ai,f.pins=0): rX af:=by
 cases I with
 |dead _=>exact h
 |jj e b af hd I he=>exact I.ok h J
 |tU b af hd I he=>have:=I.ok h J;exact⟨GK this.pl,this.lg,this.dk⟩
 |read b af hd I he=>have:=I.ok h J;exact⟨GK this.pl,this.lg,this.dk⟩
def sS (a p q r:Nat)(op dv:V)(aC:Nat): List V:=[.ptr p 0,.ptr q 0,.ptr r 0,op,dv,.int .u64 (aC:Int)]
def ew (a p q r:Nat)(op:V)(data:List Nat)(aC:Nat): aL:=xs fun dv:V=>star [pt a (.cells 6 (sS a p q r op dv aC) false),.bY dv data]
def gC (g a:Nat)(now:List (Int×List Nat))(cu:Bool): aL:=xs fun nv:V=>star [pt g (.cells 3 [.ptr a 0,nv,.bool cu] false),jv (fun v b=>.bY v b) nv now]
section
variable {told:cR} {p:Nat} {op v:V} {m:List Fm} {cu:Bool}
theorem cy : Sat h (ew a p q r op data aC::S)↔∃dv,Sat h (pt a (.cells 6 (sS a p q r op dv aC) false)::.bY dv data::S):=by
 simp only[ew,g_,bn,jy,ey]
theorem fb : Sat h (gC g a now cu::S)↔∃nv,Sat h (pt g (.cells 3 [.ptr a 0,nv,.bool cu] false)::jv (fun v b=>.bY v b) nv now::S):=by
 simp only[gC,g_,bn,jy,ey]
theorem CL (hT:W told)(s:Sat h (ew a p q r op data aC::dO r p q π::b7 q p μ::aS p δ::S))(I:rX (π,μ,δ))(J:∀f∈π.ai,f.pins=0)(hw:δ.waiting.length≤268435456):
  Call ⟨Tryz.prog,told⟩ 113 [.ptr a 0,.int .i64 n] h fun v h'=>∃(e:Int) (b:List Nat) (ε:aX),my (π,μ,δ) n e b ε ∧
   ((e≠0∧v=.bf [.a_,.int .i64 e]∧Sat h' (ew a p q r op data aC::dO r p q ε.1::b7 q p ε.2.1::aS p ε.2.2::S)) ∨
    (e=0∧∃u,v=.bf [u,.int .i64 0]∧Sat h' (aQ u b::ew a p q r op data aC::dO r p q ε.1::b7 q p ε.2.1::aS p ε.2.2::S))):=by
 have s0:=s
 obtain⟨dv,s⟩:=cy.1 s
 refine Call.of_wp (hT.free _ rfl) Tryz.func113 rfl rfl (zK 10 rfl (zY s 0 qp pP rfl (zc rfl (lH hT (s.ae [4])) ?_)))
 rintro v h ⟨rfl,rfl⟩
 refine zv ?_
 cases hd:δ.dead with
 |true =>
  exact zK 6 rfl (WP.ret ⟨aa,_,rfl,9,[],_,.dead hd,.inl ⟨by decide,rfl,s0⟩⟩)
 |false =>
  refine zK 6 rfl (zY s 0 qq vt rfl (zm rfl (zc rfl (QF (n:=n) hT (s.ae [2,2,2]) I.pl J I.lg I.dk hw) ?_)))
  rintro v h ⟨e,b,ε,hr,(⟨he,rfl,s⟩|⟨rfl,u,rfl,s⟩)⟩
  ·dsimp only[bringA,getA,aI] at s
   refine zk 10 rfl (zB rfl aE (by simp;exact he) ?_)
   exact zk 8 rfl (WP.ret ⟨aa,_,rfl,e,[],ε,.jj e b ε hd hr he,.inl ⟨he,rfl,cy.2 ⟨dv,s.ae [3,3,0,0,0]⟩⟩⟩)
  ·dsimp only[bringA,getA,aI] at s
   refine zk 10 rfl (zC rfl aE (rfl) ?_)
   have s:=s.ae [4,4,0,0,0,0]
   refine zk 8 rfl (zY s 0 qq vt rfl (zm rfl ?_))
   have gT:=hr.ok I J
   refine zc rfl (I9 (n:=n) hT (s.ae [3]) gT.pl) ?_
   rintro v h ⟨rfl,s⟩
   refine zk 5 rfl ?_
   by_cases he:(unpinF ε.1 n).1=0
   ·skip
    refine zC rfl aE (by simp;exact he) ?_
    exact zk 9 rfl (WP.ret ⟨aa,_,rfl,0,b,_,.read b ε hd hr he,.inr ⟨rfl,u,rfl,(cy.2 ⟨dv,s.ae [1,1,0,1,1,0]⟩).ae [4,0,0,0,0]⟩⟩)
   ·skip
    refine zB rfl aE (by simp;exact he) ?_
    exact zk 8 rfl (WP.ret ⟨aa,_,rfl,_,[],_,.tU b ε hd hr he,.inl ⟨he,rfl,(cy.2 ⟨dv,(s.ae [1,1,0,1,1,0]).del 5⟩)⟩⟩)
end
structure Pl.Full (π:Pl): Prop where
 nodup:(π.aH.map (·.1)).Nodup
 jY:∀n i,lookL n π.aH=some i→0≤n∧∃f,π.ai[i.toNat]?=some f∧f.aM=n∧f.b.length=512
structure fG (ε:aX): Prop where
 ok:rX ε
 pins:∀f∈ε.1.ai,f.pins=0
 full:ε.1.Full
theorem Pl.Full.set {g:Fm}(h:π.Full)(hf:π.ai[i]?=some f)(hp:g.aM=f.aM)(hl:f.b.length=512→g.b.length=512): Pl.Full { π with ai:=π.ai.set i g,br:=d }:=by
 refine⟨h.nodup,fun n j hj => ?_⟩
 obtain⟨h1,f',J,h3,h4⟩:=h.jY n j hj
 refine⟨h1,?_⟩
 by_cases I:i=j.toNat
 ·subst I
  rw[hf] at J
  have:=cA J
  subst this
  exact⟨g,kM (List.getElem?_eq_some_iff.1 hf).1,hp.trans h3,hl h4⟩
 ·exact⟨f',by simp only[rI I];exact J,h3,h4⟩
theorem f_.full (I:f_ π bR)(h:π.Full): bR.Full:=by
 refine⟨by rw[I.aH];exact h.nodup,fun n j J => ?_⟩
 rw[I.aH] at J
 obtain⟨h1,f',h2,h3,h4⟩:=h.jY n j J
 obtain⟨t,ht⟩:=I.get _ _ h2
 exact⟨h1,_,ht,h3,h4⟩
theorem sU (h:ε.1.Full): (outF ε i).2.1.Full:=by
 unfold outF
 split
 ·exact h
 ·rename_i f I
  split
  ·exact h
  ·split
   ·exact h
   ·split
    ·exact h
    ·split
     ·exact h
     ·exact h.set I rfl fun J=>J
theorem ym {g:Fm}(h:π.Full)(hg:π.ai[i]?=some g)(hp:g.aM=f.aM): (dF π i f).Full∧∀n j,lookL n (dF π i f).aH=some j→j.toNat≠i:=by
 have key:∀n j,lookL n (dF π i f).aH=some j→lookL n π.aH=some j∧j.toNat≠i:=by
  intro n j I
  by_cases hf:f.aM<0
  ·have hw:(dF π i f).aH=π.aH:=by simp only[dF,aP hf]
   rw[hw] at I
   refine⟨I,fun hi => ?_⟩
   obtain⟨h1,f',J,h3,_⟩:=h.jY n j I
   rw[hi,hg] at J
   have:=cA J
   subst this
   omega
  ·have hw:(dF π i f).aH=oU f.aM π.aH:=by simp only[dF,ak hf]
   rw[hw,Gu h.nodup] at I
   by_cases hn:f.aM=n
   ·rw[aP hn] at I;cases I
   ·rw[ak hn] at I
    refine⟨I,fun hi => ?_⟩
    obtain⟨h1,f',J,h3,_⟩:=h.jY n j I
    rw[hi,hg] at J
    have:=cA J
    subst this
    omega
 refine⟨⟨?_,fun n j I => ?_⟩,fun n j I=>(key n j I).2⟩
 ·unfold dF
  simp only
  split
  ·exact h.nodup
  ·exact yc h.nodup
 ·obtain⟨h1,J⟩:=key n j I
  obtain⟨h3,f',h4,h5,h6⟩:=h.jY n j h1
  exact⟨h3,f',by simp only[dF,rI (qi J)];exact h4,h5,h6⟩
theorem K_ (h:π.Full)(hi:i<π.ai.length)(J:∀n j,lookL n π.aH=some j→j.toNat≠i)(hn:0≤n)(hb:b.length=512): (jP π i n b).Full:=by
 refine⟨jh h.nodup,fun m j I => ?_⟩
 simp only[jP,gL] at I
 by_cases hm:n=m
 ·rw[aP hm] at I
  have:=cA I
  subst this;subst hm
  exact⟨hn,⟨n,b,1,true,false⟩,kM hi,rfl,hb⟩
 ·rw[ak hm] at I
  obtain⟨h3,f',h4,h5,h6⟩:=h.jY m j I
  exact⟨h3,f',by simp only[jP,rI (qi (J m j I))];exact h4,h5,h6⟩
theorem fE.full (hr:fE ε n e b af)(hd:ε.2.2.Ok)(h:ε.1.Full): af.1.Full∧(e=0→b.length=512):=by
 cases hr with
 |arg _=>exact⟨h,fun h=>(by cases h)⟩
 |AE i f h1 h2 hl J =>
  refine⟨h.set J rfl fun hl=>hl,fun _ => ?_⟩
  obtain⟨_,f',h4,_,h6⟩:=h.jY n i hl
  rw[dY,J] at h4
  have:=cA h4
  subst this
  exact h6
 |out bR i f h1 h2 hl hn J hh he=>exact⟨sU (ε:=(bR,ε.2)) (hn.full h),fun h=>absurd h he⟩
 |read bR i f h1 h2 hl hn J hh he hr =>
  obtain⟨c,I⟩:=oJ (ε:=(bR,ε.2)) J
  exact⟨(ym (f:=f) (sU (ε:=(bR,ε.2)) (hn.full h)) I rfl).1,fun h=>absurd h hr⟩
 |bad bR i f h1 h2 hl hn J hh he hr hc =>
  obtain⟨c,I⟩:=oJ (ε:=(bR,ε.2)) J
  exact⟨(ym (f:=f) (sU (ε:=(bR,ε.2)) (hn.full h)) I rfl).1,fun h=>absurd h hc⟩
 |load bR i f h1 h2 hl hn J hh he hr hc =>
  obtain⟨c,I⟩:=oJ (ε:=(bR,ε.2)) J
  have hi:=(List.getElem?_eq_some_iff.1 I).1
  obtain⟨k1,k2⟩:=ym (f:=f) (sU (ε:=(bR,ε.2)) (hn.full h)) I rfl
  have GL:=(CI (ε:=(bR,ε.2)) (i:=i) hd).at n
  exact⟨K_ k1 (by simp only[dF,dJ];exact hi) k2 h1 GL,fun _=>GL⟩
theorem Cd (h:π.Full): (unpinF π n).2.Full:=by
 unfold unpinF
 split
 ·exact h
 ·split
  ·exact h
  ·rename_i f I
   exact h.set I rfl fun J=>J
theorem f_.pins (I:f_ π bR)(h:∀f∈π.ai,f.pins=0): ∀f∈bR.ai,f.pins=0:=fun g J=>by
 obtain⟨f,hf,t,rfl⟩:=I.ai g J
 exact h f hf
theorem sV {ε:aX}{i:Nat}(h:∀f∈ε.1.ai,f.pins=0): ∀f∈(outF ε i).2.1.ai,f.pins=0:=by
 unfold outF
 split
 ·exact h
 ·rename_i f J
  have hm:=bD J
  split
  ·exact h
  ·split
   ·exact h
   ·split
    ·exact h
    ·split
     ·exact h
     ·intro g I
      rcases qb I with I|rfl
      ·exact h g I
      ·exact h f hm
theorem yn {π:Pl}{i:Nat}{f:Fm}(h:∀f∈π.ai,f.pins=0): ∀f∈(dF π i f).ai,f.pins=0:=by
 intro g I
 rcases qb I with I|rfl
 ·exact h g I
 ·rfl
theorem fE.Mu {ε af:aX}{n e:Int}{b:List Nat}(J:fE ε n e b af)(he:e≠0)(hp:∀f∈ε.1.ai,f.pins=0): ∀f∈af.1.ai,f.pins=0:=by
 cases J with
 |arg _=>exact hp
 |AE i f h1 h2 hl hf=>exact absurd rfl he
 |out bR i f h1 h2 hl I hf hh he=>exact sV (ε:=(bR,ε.2)) (I.pins hp)
 |read bR i f h1 h2 hl I hf hh he J=>exact yn (f:=f) (sV (ε:=(bR,ε.2)) (I.pins hp))
 |bad bR i f h1 h2 hl I hf hh he J hc=>exact yn (f:=f) (sV (ε:=(bR,ε.2)) (I.pins hp))
 |load bR i f h1 h2 hl I hf hh he J hc=>exact absurd rfl he
theorem Jk {m:List Fm}{i:Nat}{f g:Fm}(h:∀f∈m,f.pins=0)(J:g.pins=0): ∀x∈(m.set i f).set i g,x.pins=0:=by
 intro x I
 rw[List.set_set] at I
 rcases qb I with I|rfl
 ·exact h x I
 ·exact J
theorem u5 (hl:lookL n π.aH=some (i:Int))(I:π.ai[i]?=some f)(J:f.pins=1): heldI π n=some i∧unpinF π n=(0,{ π with ai:=π.ai.set i { f with pins:=0 } }):=by
 have h1:heldI π n=some i:=by
  simp only[heldI,hl,dY,I,J]
  rfl
 refine⟨h1,?_⟩
 simp only[unpinF,h1,I,J]
 rfl
theorem TU {α:Type}{n:Int}{x:α}{l:List (Int×α)}: lookL n (cD n x l)=some x:=by rw[gL,aP rfl]
theorem fE.at {ε af:aX}{n:Int}{b:List Nat}(hr:fE ε n 0 b af)(hp:∀f∈ε.1.ai,f.pins=0):
  ∃(i:Nat) (f:Fm),lookL n af.1.aH=some (i:Int)∧af.1.ai[i]?=some f∧f.pins=1∧f.b=b∧∀g:Fm,g.pins=0→∀x∈af.1.ai.set i g,x.pins=0:=by
 generalize I:(0:Int)=e at hr
 cases hr with
 |arg _=>cases I
 |AE i f h1 h2 hl J =>
  have hi:=(List.getElem?_eq_some_iff.1 J).1
  refine⟨i,{ f with gz:=true,pins:=f.pins+1 },hl,by simp[hi],by have:=hp f (bD J);show f.pins+1=1;omega,rfl,fun g hg=>Jk hp hg⟩
 |out bR i f h1 h2 hl hn J hh he=>exact absurd I.symm he
 |read bR i f h1 h2 hl hn J hh he hr=>exact absurd I.symm hr
 |bad bR i f h1 h2 hl hn J hh he hr hc=>exact absurd I.symm hc
 |load bR i f h1 h2 hl hn J hh he hr hc =>
  obtain⟨c,hc'⟩:=oJ (ε:=(bR,ε.2)) J
  have hi:=(List.getElem?_eq_some_iff.1 hc').1
  refine⟨i,⟨n,_,1,true,false⟩,TU,kM (by show i<(List.set _ i _).length;rw[dJ];exact hi),rfl,rfl,fun g hg=>Jk (yn (f:=f) (sV (ε:=(bR,ε.2)) (hn.pins hp))) hg⟩
theorem fE.CM (I:fE ε n 0 b af)(J:∀f∈ε.1.ai,f.pins=0): (unpinF af.1 n).1=0∧∀f∈(unpinF af.1 n).2.ai,f.pins=0:=by
 obtain⟨i,f,h1,h2,h3,h4,h5⟩:=I.at J
 rw[(u5 h1 h2 h3).2]
 exact⟨rfl,h5 _ rfl⟩
theorem my.jk (I:my ε n e b af)(h:fG ε): fG af:=by
 refine⟨I.ok h.ok h.pins,?_,?_⟩
 ·cases I with
  |dead _=>exact h.pins
  |jj e b af hd I he=>exact I.Mu he h.pins
  |tU b af hd I he=>exact(I.CM h.pins).2
  |read b af hd I he=>exact(I.CM h.pins).2
 ·cases I with
  |dead _=>exact h.full
  |jj e b af hd I he=>exact(I.full h.ok.dk h.full).1
  |tU b af hd I he=>exact Cd (I.full h.ok.dk h.full).1
  |read b af hd I he=>exact Cd (I.full h.ok.dk h.full).1
theorem my.len (J:my ε n 0 b af)(h:fG ε): b.length=512:=by
 generalize I:(0:Int)=e at J
 cases J with
 |dead _=>cases I
 |jj e b af hd J he=>exact absurd I.symm he
 |tU b af hd J he=>exact absurd I.symm he
 |read b af hd J he=>exact(J.full h.ok.dk h.full).2 rfl
inductive GRd (ε:aX)(now:List (Int×List Nat))(cu:Bool)(n:Int): Int→List Nat→aX→Prop where
 |arg (h:¬(0≤n∧n<ε.2.2.aq.length)):GRd ε now cu n 1 [] ε
 |cu (h1:0≤n) (h2:n<ε.2.2.aq.length) (h:cu=true):GRd ε now cu n 18 [] ε
 |own (b:List Nat) (h1:0≤n) (h2:n<ε.2.2.aq.length) (h:cu=false) (hl:lookL n now=some b):GRd ε now cu n 0 b ε
 |read (e:Int) (b:List Nat) (af:aX) (h1:0≤n) (h2:n<ε.2.2.aq.length) (h:cu=false) (hl:lookL n now=none) (hr:my ε n e b af):GRd ε now cu n e b af
theorem GRd.jk {cu:Bool}(I:GRd ε now cu n e b af)(h:fG ε): fG af:=by
 cases I with
 |arg _=>exact h
 |cu _ _ _=>exact h
 |own _ _ _ _ _=>exact h
 |read e b af J h2 h3 hl I=>exact I.jk h
theorem OpR.invoke {o:Oper}{x:Operand}{m:String}{k:FuncId}{args:List V}{R:V→H→Prop}(J:o.op=.call cl)(hc:cl.callee=.invoke x m)
 (hx:bA E x=some (.iface t u))(hm:methV C.P t m=some k)(ha:lookArgs E cl.args.toList=some args)(I:Am.Call C k (u::args) h R): OpR C E h o R:=by
 obtain⟨v,h₁,⟨N,hN⟩,hr⟩:=I
 exact⟨v,h₁,hr,fun env hE=>⟨N,by simp only[evOp,J,evCall,ki hE ha,hc,bU hE hx,hm];exact hN⟩⟩
theorem FJ : methV Tryz.prog 26 "Read" = some 76 := by kernel_rfl
theorem XC : methV Tryz.prog 24 "Read" = some 113 := by kernel_rfl
theorem Oi {e:TypeId}{x:Operand}(hu:Tryz.prog.underlying t=some (.pointer e)): binV Tryz.prog h .neq t x y .b_ .b_=some (.bool false):=by simp only[binV,eqV,hu];rfl
theorem abw {e:TypeId}{x:Operand}(hu:Tryz.prog.underlying t=some (.pointer e)): binV Tryz.prog h .neq t x y (.ptr i o) .b_=some (.bool true):=by simp only[binV,eqV,hu];rfl
theorem vz {e:TypeId}{x:Operand}(hu:Tryz.prog.underlying t=some (.pointer e)): binV Tryz.prog h .eql t x y (.ptr i o) .b_=some (.bool false):=by simp only[binV,eqV,hu];rfl
theorem abx {e:TypeId}{x:Operand}(hu:Tryz.prog.underlying t=some (.pointer e)): binV Tryz.prog h .eql t x y .b_ (.ptr i o)=some (.bool false):=by simp only[binV,eqV,hu];rfl
theorem aby {e k:TypeId}{x:Operand}{n m:Nat}{cs ds:List V}(hu:Tryz.prog.underlying t=some (.pointer e))(I:bN Tryz.prog e=some k)(J:1≤k)(hi:T.get h.tr i=some (.cells n cs false))(hj:T.get h.tr j=some (.cells m ds false))(hn:1≤n)(hm:1≤m):
  binV Tryz.prog h .eql t x y (.ptr i 0) (.ptr j 0)=some (.bool (Nat.beq i j)):=by
 simp only[binV,eqV,hu,I,bg.2 J,aj,hi,hj,bg.2 hn,bg.2 hm,jz,fP,Bool.and_true,lZ]
section
variable {told:cR} {p:Nat} {op v:V} {m:List Fm} {cu:Bool}
theorem GM (I:W told)(s:Sat h (ew a p q r .b_ data aC::S)): Call ⟨Tryz.prog,told⟩ 45 [.ptr a 0] h fun v h'=>∃g,v=.bf [.ptr g 0,.int .i64 0]∧Sat h' (gC g a [] false::ew a p q r (.ptr g 0) data aC::S):=by
 obtain⟨dv,s⟩:=cy.1 s
 refine Call.of_wp (I.free _ rfl) Tryz.func45 rfl rfl (zK 10 rfl (zY s 0 rQ IF rfl (zC rfl (Oi lu) (rfl) (zk 7 rfl ?_))))
 refine ax.Ai s rfl rfl rfl rfl (fun J h s => ?_)
 refine zo rfl (cT rfl (by rw[aa8];rfl)) ?_
 refine ax.cm s rfl rfl rfl (fY rfl rfl) (fun p13 h s => ?_)
 refine zn rfl (zf rfl (rQ _ _) ?_)
 refine zS rfl (by exact s.eH (k:=2) rfl Zy rfl (by decide) rfl rfl) (fun h s => ?_)
 refine zk 5 rfl (zY s 2 rQ IF rfl (zk 3 rfl (WP.ret ⟨aa,_,rfl,?_⟩)))
 have s1:=uT (f:=fun v (b:List Nat)=>.bY v b) (s.ae [1])
 have s:=fb.2 ⟨_,s1.ae [1]⟩
 exact⟨_,rfl,(cy.2 ⟨dv,s.ae [1,1,0]⟩).ae [1]⟩
theorem yo (hT:W told)(s:Sat h (gC g a now cu::ew a p q r op data aC::dO r p q π::b7 q p μ::aS p δ::S))(eY:fG (π,μ,δ))(hw:δ.waiting.length≤268435456)(tw:∀e∈now,e.2.length=512):
  Call ⟨Tryz.prog,told⟩ 76 [.ptr g 0,.int .i64 n] h fun v h'=>∃(e:Int) (b:List Nat) (ε:aX),GRd (π,μ,δ) now cu n e b ε ∧
   ((e≠0∧v=.bf [.a_,.int .i64 e]∧Sat h' (gC g a now cu::ew a p q r op data aC::dO r p q ε.1::b7 q p ε.2.1::aS p ε.2.2::S)) ∨
    (e=0∧∃u,v=.bf [u,.int .i64 0]∧Sat h' (aQ u b::gC g a now cu::ew a p q r op data aC::dO r p q ε.1::b7 q p ε.2.1::aS p ε.2.2::S))):=by
 have s0:=s
 obtain⟨nv,s⟩:=fb.1 s
 obtain⟨dv,s⟩:=cy.1 (s.ae [2])
 dsimp only[bringA,getA,aI] at s
 refine Call.of_wp (hT.free _ rfl) Tryz.func76 rfl rfl (zK 6 rfl (WP.block (zK 3 rfl ?_)))
 refine zd rfl (aA rfl rfl bh) ?_ ?_
 ·intro J
  have J:n<0:=by simpa using J
  exact zk 20 rfl (WP.ret ⟨aa,_,rfl,1,[],_,.arg (by simp only;omega),.inl ⟨by decide,rfl,s0⟩⟩)
 ·intro J
  have J:0≤n:=by simp at J;omega
  refine zk 4 rfl (zY s 2 qo Aj rfl (zn rfl (zY s 0 qp pP rfl (zc rfl (yg hT (s.ae [6])) ?_))))
  rintro v h ⟨rfl,rfl⟩
  refine zd rfl (aA rfl rfl oa) ?_ ?_
  ·intro I
   have I:(δ.aq.length:Int)≤n:=by simpa using I
   exact zk 9 rfl (WP.ret ⟨aa,_,rfl,1,[],_,.arg (by simp only;omega),.inl ⟨by decide,rfl,s0⟩⟩)
  ·intro I
   have I:n<(δ.aq.length:Int):=by simp at I;omega
   refine zk 8 rfl (zf rfl (Bw _ _) ?_)
   cases cu with
   |true =>
    exact zt rfl (aZ rfl (s.ld (k:=2) rfl kZ rfl)) (rfl) (zk 8 rfl (WP.ret ⟨aa,_,rfl,18,[],_,.cu J I rfl,.inl ⟨by decide,rfl,s0⟩⟩))
   |false =>
    refine zh rfl (aZ rfl (by exact s.ld (k:=2) rfl kZ rfl)) (rfl) ?_
    refine za rfl (zv (zj rfl (WP.skip (zw (zg rfl (zk 2 rfl (zf rfl (rP _ _) (zl rfl (by exact s.ld (k:=2) rfl jT rfl) ?_))))))))
    refine zm rfl ?_
    rcases mK (n:=n) (fun _ _=>aV.bY _ _) (s.ae [3]) k_ bT oT with⟨g1,g2,_⟩|⟨u,b,g1,g2,_,s2⟩
    ·refine ax.op rfl rfl rfl (iL rfl rfl g2) ?_
     refine zk 5 rfl (zv (zg rfl (zm rfl (zv (zj rfl (WP.skip (zg rfl (zk 2 rfl (zf rfl (qo _ _) (zl rfl (by exact s.ld (k:=2) rfl Aj rfl) ?_))))))))))
     refine zm rfl (zc rfl (CL (n:=n) hT (s0.ae [1,1,1,1]) eY.ok eY.pins hw) ?_)
     rintro v h ⟨e,b,ε,hr,(⟨he,rfl,s⟩|⟨rfl,u,rfl,s⟩)⟩
     ·dsimp only[bringA,getA,aI] at s
      exact zk 5 rfl (WP.ret ⟨aa,_,rfl,e,b,ε,.read e b ε J I rfl g1 hr,.inl ⟨he,rfl,s.ae [4]⟩⟩)
     ·dsimp only[bringA,getA,aI] at s
      exact zk 5 rfl (WP.ret ⟨aa,_,rfl,0,b,ε,.read 0 b ε J I rfl g1 hr,.inr ⟨rfl,u,rfl,s.ae [0,4]⟩⟩)
    ·dsimp only[bringA,getA,aI] at s2
     refine zo rfl (iL rfl rfl g2) (zk 14 rfl ?_)
     have hb:=tw _ (fJ g1)
     refine zc rfl (mT hT s2 (c8 _ _) (by simp only at hb;omega)) ?_
     intro v h s
     refine zk 3 rfl (WP.ret ⟨aa,_,rfl,?_⟩)
     have s:=cy.2 ⟨dv,s.ae [3,3,0,0,0,0,0,0,0]⟩
     have s:=fb.2 ⟨nv,s.ae [4,3]⟩
     exact⟨0,b,_,.own b J I rfl g1,.inr ⟨rfl,v,rfl,((s.ae [2,0,0,1,1,1]).del 6)⟩⟩
end
inductive om (ε:aX)(now:List (Int×List Nat))(cu:Bool)(n:Int)(b:List Nat): Int→List (Int×List Nat)→aX→Prop where
 |may (e:Int) (c:List Nat) (af:aX) (hr:GRd ε now cu n e c af) (he:e≠0):om ε now cu n b e now af
 |bad (c:List Nat) (af:aX) (hr:GRd ε now cu n 0 c af) (hg:bW b=false):om ε now cu n b 4 now af
 |done (c:List Nat) (af:aX) (hr:GRd ε now cu n 0 c af) (hg:bW b=true):om ε now cu n b 0 (cD n b now) af
theorem om.jk {cu:Bool}(I:om ε now cu n b e bL af)(h:fG ε): fG af:=by
 cases I with
 |may e c af I he=>exact I.jk h
 |bad c af I J=>exact I.jk h
 |done c af I J=>exact I.jk h
section
variable {told:cR} {p:Nat} {op v:V} {m:List Fm} {cu:Bool}
theorem Z2 (hT:W told)(s:Sat h (gC g a now cu::ew a p q r op data aC::dO r p q π::b7 q p μ::aS p δ::S))(J:fG (π,μ,δ))(hw:δ.waiting.length≤268435456)(I:∀e∈now,e.2.length=512):
  Call ⟨Tryz.prog,told⟩ 106 [.iface 26 (.ptr g 0),.int .i64 n] h fun v h'=>∃(e:Int) (b:List Nat) (ε:aX),GRd (π,μ,δ) now cu n e b ε∧v=.int .i64 e ∧
   Sat h' (gC g a now cu::ew a p q r op data aC::dO r p q ε.1::b7 q p ε.2.1::aS p ε.2.2::S):=by
 refine Call.of_wp (hT.free _ rfl) Tryz.func106 rfl rfl (zK 8 rfl (ax.any rfl rfl rfl (OpR.invoke rfl rfl rfl FJ rfl (yo (n:=n) hT s J hw I)) ?_))
 rintro v h ⟨e,b,ε,hr,(⟨he,rfl,s⟩|⟨rfl,u,rfl,s⟩)⟩
 ·refine ax.op rfl rfl rfl (bK rfl) ?_
  exact zk 10 rfl (WP.ret ⟨aa,_,rfl,e,b,ε,hr,rfl,s⟩)
 ·skip
  exact zk 11 rfl (WP.ret ⟨aa,_,rfl,0,b,ε,hr,rfl,s.drop⟩)
theorem GN (hT:W told)(s:Sat h (gC g a now cu::ew a p q r op data aC::dO r p q π::b7 q p μ::aS p δ::X::S))(hX:cL X (cQ x b))(hb:b.length<9223372036854775808)(eY:fG (π,μ,δ))(hw:δ.waiting.length≤268435456)(J:∀e∈now,e.2.length=512):
  Call ⟨Tryz.prog,told⟩ 49 [.ptr g 0,.int .i64 n,x] h fun v h'=>∃(e:Int) (bL:List (Int×List Nat)) (ε:aX),om (π,μ,δ) now cu n b e bL ε∧v=.int .i64 e ∧
   Sat h' (gC g a bL cu::ew a p q r op data aC::dO r p q ε.1::b7 q p ε.2.1::aS p ε.2.2::X::S):=by
 refine Call.of_wp (hT.free _ rfl) Tryz.func49 rfl rfl (zK 8 rfl (zo rfl (qS rfl (mki_of lu rfl)) (zm rfl (zc rfl (Z2 (n:=n) hT s eY hw J) ?_))))
 rintro v h ⟨e,c,ε,hr,rfl,s⟩
 refine zk 5 rfl ?_
 by_cases he:e=0
 ·skip
  subst he
  refine zC rfl aE (rfl) (zk 7 rfl (zc rfl (Mf hT (s.ae [5]) hX hb) ?_))
  rintro v h ⟨rfl,s⟩
  refine zo rfl (er rfl rfl) (zv ?_)
  by_cases I:bW b=true
  ·skip
   refine WP.Vv rfl (by rw[I];rfl) ?_
   have N6:=eB I
   obtain⟨nv,s⟩:=fb.1 (s.ae [1])
   have s:=s.ae [2,0,0]
   obtain⟨xk,rfl⟩:=DQ s (j:=2) rfl
   refine zK 2 rfl ?_
   have s0:=s
   refine WP.drawn [some (0,2),some (0,2),some (0,2),some (0,2),some (0,2),ah,ah,ah] rfl (by kernel_rfl) (by kernel_rfl) ?_
   refine zM rfl (zN rfl (zF rfl (rP _ _) (zL rfl (s.ld (k:=1) rfl jT rfl) (zM rfl (zM rfl (ay.any rfl rfl rfl rfl (OpR.call rfl rfl rfl rfl (mT hT s hX (by omega))) ?_))))))
   intro u h s
   obtain⟨lq,_,cap,_,rfl,_⟩:=s.gq (by omega)
   have s:=s.ga
   have s1:=s
   refine ay.ij rfl rfl rfl (OpR.mapUpdate rfl rfl rfl rfl (pS (f:=fun v b=>aL.bY v b) (x:=b) (fun _ _=>aV.bY _ _) (s.ae [0,2]) k_ bT)) ?_
   intro w h s
   refine ay.nil ⟨⟨fun _ _=>.inr ⟨rfl,⟨_,bK rfl⟩,bH _ rfl⟩,fun _ _=>.inr ⟨rfl,⟨_,pJ rfl⟩,bH _ rfl⟩,fun _ _=>.inr ⟨rfl,⟨_,lE rfl (rP _ _)⟩,bH _ rfl⟩,eE (.inr ⟨rfl,⟨_,aZ rfl (s0.ld (k:=1) rfl jT rfl)⟩,bH _ rfl⟩) (.inr ⟨rfl,⟨_,aZ rfl (s1.ld (k:=2) rfl jT rfl)⟩,bH _ rfl⟩),fun _ _=>.inr ⟨rfl,⟨_,bK rfl⟩,bH _ rfl⟩,aa,aa,aa,aa⟩,?_⟩
   exact zK 4 rfl (WP.ret ⟨aa,_,rfl,0,_,ε,.done c ε hr I,rfl,fb.2 ⟨.map xk,s.ae [2,0,1,1,1,1,0]⟩⟩)
  ·have I:bW b=false:=by simpa using I
   refine WP.NJ rfl (by rw[I];rfl) ?_
   exact zK 4 rfl (WP.ret ⟨aa,_,rfl,4,_,ε,.bad c ε hr I,rfl,s.ae [1,1,1,1,1,0]⟩)
 ·skip
  refine zB rfl aE (by simp;exact he) ?_
  exact zk 7 rfl (WP.ret ⟨aa,_,rfl,e,_,ε,.may e c ε hr he,rfl,s⟩)
theorem GO (I:W told)(s:Sat h (gC g a now cu::ew a p q r (.ptr g 0) data aC::S)): Call ⟨Tryz.prog,told⟩ 60 [.ptr g 0] h fun v h'=>v=.bf []∧Sat h' (gC g a now true::ew a p q r .b_ data aC::S):=by
 obtain⟨nv,s⟩:=fb.1 s
 obtain⟨dv,s⟩:=cy.1 (s.ae [2])
 refine Call.of_wp (I.free _ rfl) Tryz.func60 rfl rfl (zK 4 rfl (zf rfl (Bw _ _) ?_))
 refine zS rfl (by exact s.eH (k:=2) rfl yX rfl (by decide) rfl rfl) (fun h s => ?_)
 refine zk 5 rfl (zY s 2 qo Aj rfl (zn rfl (zY s 0 rQ IF rfl (zm rfl (zB rfl (aby lu aa7 (by decide) (s.row (k:=2) rfl) (s.row (k:=2) rfl) (by decide) (by decide)) (fP g) ?_)))))
 refine zk 5 rfl (zY s 2 qo Aj rfl (zn rfl (zf rfl (rQ _ _) ?_)))
 refine zS rfl (by exact s.eH (k:=0) rfl Zy rfl (by decide) rfl rfl) (fun h s => ?_)
 refine zv ?_
 have s:=fb.2 ⟨nv,(cy.2 ⟨dv,s⟩).ae [1,1]⟩
 exact⟨aa,_,rfl,rfl,s⟩
theorem TV (I:W told)(s:Sat h (gC g a now cu::ew a p q r (.ptr g 0) data aC::S)): Call ⟨Tryz.prog,told⟩ 33 [.ptr g 0] h fun v h'=>v=.bf []∧Sat h' (gC g a now true::ew a p q r .b_ data aC::S):=by
 refine Call.of_wp (I.free _ rfl) Jh rfl rfl (zK 2 rfl (zc rfl (GO I s) ?_))
 rintro v h ⟨rfl,s⟩
 exact zv ⟨aa,_,rfl,rfl,s⟩
theorem La (I:W told)(s:Sat h (gC g a now cu::ew a p q r .b_ data aC::S)): Call ⟨Tryz.prog,told⟩ 60 [.ptr g 0] h fun v h'=>v=.bf []∧Sat h' (gC g a now true::ew a p q r .b_ data aC::S):=by
 obtain⟨nv,s⟩:=fb.1 s
 obtain⟨dv,s⟩:=cy.1 (s.ae [2])
 dsimp only[bringA,getA,aI] at s
 refine Call.of_wp (I.free _ rfl) Tryz.func60 rfl rfl (zK 4 rfl (zf rfl (Bw _ _) ?_))
 refine zS rfl (by exact s.eH (k:=2) rfl yX rfl (by decide) rfl rfl) (fun h s => ?_)
 dsimp only[sS,Nat.reduceAdd,List.set,setA] at s
 refine zv (zg rfl (zk 2 rfl (zf rfl (qo _ _) (zl rfl (by exact s.ld (k:=2) rfl Aj rfl) ?_))))
 refine zn rfl (zf rfl (rQ _ _) (zl rfl (by exact s.ld (k:=0) rfl IF rfl) ?_))
 refine zm rfl (zh rfl (aA rfl rfl (abx lu)) (rfl) (zv (zj rfl (WP.skip ?_))))
 have s:=fb.2 ⟨nv,(cy.2 ⟨dv,s⟩).ae [1,1]⟩
 exact⟨aa,_,rfl,rfl,s⟩
theorem Oj (I:W told)(s:Sat h (gC g a now cu::ew a p q r .b_ data aC::S)): Call ⟨Tryz.prog,told⟩ 33 [.ptr g 0] h fun v h'=>v=.bf []∧Sat h' (gC g a now true::ew a p q r .b_ data aC::S):=by
 refine Call.of_wp (I.free _ rfl) Jh rfl rfl (zK 2 rfl (zc rfl (La I s) ?_))
 rintro v h ⟨rfl,s⟩
 exact zv ⟨aa,_,rfl,rfl,s⟩
end
inductive u6 (aM:Int)(dX now:List Nat): Nat→List cq→Prop where
 |done (i:Nat) (h:now.length≤i):u6 aM dX now i []
 |skip (i:Nat) (l:List cq) (h:i<now.length) (he:dX[i]?=now[i]?) (hr:u6 aM dX now (i+1) l):u6 aM dX now i l
 |take (i e:Nat) (l:List cq) (h1:i<e) (h2:e≤now.length) (h3:dX[i]?≠now[i]?) (h4:∀k,e≤k→k<e+8→dX[k]?=now[k]?) (hr:u6 aM dX now e l):u6 aM dX now i (⟨aM,i,false,(now.take e).drop i⟩::l)
def GP (aM:Int)(dX now:List Nat)(c:List cq): Prop:=∃l,u6 aM dX now 12 l∧c=if l=[] then[⟨aM,0,false,[]⟩] else l
theorem u7 : ∃i,Tryz.prog.info? 180=some i∧i.size=4∧i.bytes=48 :=
 ⟨_,(show Tryz.prog.info? 180=some ((Tryz.prog.info? 180).getD default) by kernel_rfl),by kernel_rfl,by kernel_rfl⟩
section
variable {told:cR} {p:Nat} {op v:V} {now:List Nat}
noncomputable def rgO : Code:=cN [1,1,0,1,0,0] ((Tryz.f115.body).getD .skip)
noncomputable def rgI : Code:=cN [1,1,0,1,0,0,1,0,1,1,0,1,0,0] ((Tryz.f115.body).getD .skip)
theorem TW {pg:Int}{I:Nat}{t7:V}{k1 k2:Nat}(s:Sat h S)(H9:getA S k1=some X)(hX:cL X (cQ u dX))(Qm:getA S k2=some Y)(hY:cL Y (cQ v now))(qD:dX.length=512)(iW:now.length=512): ∀(j i e:Nat) (E:List (Nat×V)) (Q:Ex→List (Nat×V)→H→Prop),i+j=512→I<e→e≤i→(∀k,e≤k→k<i→dX[k]?=now[k]?) →
  Has E [(0,.int .i64 pg),(1,u),(2,v),(7,t7),(8,.int .i64 (I:Int)),(9,.int .i64 (e:Int)),(10,.int .i64 (i:Int))] →
  (∀J E',I<J→J≤512→(∀k,J≤k→k<J+8→dX[k]?=now[k]?)→Has E' [(0,.int .i64 pg),(1,u),(2,v),(7,t7),(8,.int .i64 (I:Int)),(9,.int .i64 (J:Int))]→Q (.exit 2) E' h) →
  WP ⟨Tryz.prog,told⟩ 71 (.loop rgI) E h Q:=by
 have hv:=s.aD Qm hY
 have hu:=s.aD H9 hX
 have hlen:lenV Tryz.prog h 28 v=some (.int .i64 now.length):=aW aK hv
 intro j
 induction j with
 |zero =>
  intro i e E Q hi h1 h2 hg hE hq
  refine WP.loop (WP.has hE (zK 5 rfl (zo rfl (aN rfl rfl rfl hlen) (zC rfl bh (by grind) ?_))))
  refine zk 8 rfl (WP.exit ?_)
  refine hq e _ h1 (by omega) (fun k k1 _ => ?_) ⟨rfl,rfl,rfl,rfl,rfl,rfl,aa⟩
  by_cases hk:k<i
  ·grind
  ·grind
 |succ j ih =>
  intro i e E Q hi h1 h2 hg hE hq
  have hb:now[i]?=some (now[i]'(by omega)):=bx _
  generalize (now[i]'(by omega))=b at hb
  have hc:dX[i]?=some (dX[i]'(by omega)):=bx _
  generalize (dX[i]'(by omega))=c at hc
  obtain⟨id,off,e1,e2⟩:=eU hv hb
  obtain⟨Da,off',e3,e4⟩:=eU hu hc
  refine WP.loop (WP.has hE (zK 5 rfl (zo rfl (aN rfl rfl rfl hlen) (zB rfl bh (by grind) ?_))))
  refine zk 3 rfl (zb rfl (by exact bC (aB (by omega) (by omega))) ?_)
  by_cases hd:i<e+8
  ·skip
   refine zB rfl bh (by grind) ?_
   refine zk 5 rfl (WP.block (zw ?_))
   have s0:=s
   refine WP.drawn [ah,ah,ah,ah,ah,ah,ah,ah,ah] rfl (by kernel_rfl) (by kernel_rfl) ?_
   refine zM rfl (zM rfl (zO rfl (cK (r:=.ptr Da off') rfl rfl e3) (zL rfl e4 (zM rfl (zM rfl (zO rfl (cK (r:=.ptr id off) rfl rfl e1) (zL rfl e2 ?_)))))))
   by_cases hbc:c=b
   ·skip
    refine ay.oN rfl rfl rfl rfl (aA rfl rfl aE) (by grind) ?_
    refine ay.nil ⟨⟨aa,aa,aa,aa,aa,aa,aa,aa,aa,aa⟩,?_⟩
    refine zj rfl (WP.skip (zr rfl (zm rfl (zb rfl (by exact bC (aB (by omega) (by omega))) ?_))))
    refine za rfl (zv ?_)
    exact ih (i+1) e _ Q (by omega) h1 (by omega) (fun k k1 k2=>(by
     grind)) ⟨rfl,rfl,rfl,rfl,rfl,rfl,rfl,aa⟩ hq
   ·skip
    refine ay.tE rfl rfl rfl rfl (aA rfl rfl aE) (by grind) ?_
    refine ay.nil ⟨⟨aa,aa,aa,aa,aa,aa,aa,aa,aa,aa⟩,?_⟩
    refine zK 3 rfl (zb rfl (by exact bC (aB (by omega) (by omega))) ?_)
    refine za rfl (zv (zr rfl (zm rfl (zb rfl (by exact bC (aB (by omega) (by omega))) ?_))))
    refine za rfl (zv ?_)
    exact ih (i+1) (i+1) _ Q (by omega) (by omega) (by omega) (fun k k1 k2=>absurd k2 (by omega)) ⟨rfl,rfl,rfl,rfl,rfl,rfl,rfl,aa⟩ hq
  ·skip
   refine zC rfl bh (by grind) ?_
   exact zk 3 rfl (WP.exit (hq e _ h1 (by omega) (fun k k1 k2=>hg k k1 (by omega)) ⟨rfl,rfl,rfl,rfl,rfl,rfl,aa⟩))
theorem TX (hT:W told){pg:Int}(hX:cL X (cQ u dX))(hY:cL Y (cQ v now))(qD:dX.length=512)(iW:now.length=512): ∀(j i:Nat) (acc:List cq) (av:V) (cs:List V) (h:H) (E:List (Nat×V)) (Q:Ex→List (Nat×V)→H→Prop),512≤i+j→i≤512→acc.length≤i →
  Sat h (.arr 4 av cs::dm cs acc::X::Y::S)→(∀l,u6 pg dX now i l→u6 pg dX now 12 (acc++l)) →
  Has E [(0,.int .i64 pg),(1,u),(2,v),(7,av),(8,.int .i64 (i:Int))] →
  (∀mM cs' l E' h',u6 pg dX now 12 l→l.length≤512→Sat h' (.arr 4 mM cs'::dm cs' l::X::Y::S)→Has E' [(0,.int .i64 pg),(7,mM)]→Q (.exit 0) E' h') →
  WP ⟨Tryz.prog,told⟩ 71 (.loop rgO) E h Q:=by
 intro j
 induction j with
 |zero =>
  intro i acc av cs h E Q hj hi Z3 s I hE hq
  have hlen:lenV Tryz.prog h 28 v=some (.int .i64 now.length):=aW aK (s.aD (k:=3) rfl hY)
  refine WP.loop (WP.has hE (zK 5 rfl (zo rfl (aN rfl rfl rfl hlen) (zC rfl bh (by grind) ?_))))
  refine zk 2 rfl (WP.exit ?_)
  have:=I [] (.done _ (by omega))
  rw[dS] at this
  exact hq av cs acc _ _ this (by omega) s ⟨rfl,rfl,aa⟩
 |succ j ih =>
  intro i acc av cs h E Q hj hi Z3 s I hE hq
  have hv:=s.aD (k:=3) rfl hY
  have hu:=s.aD (k:=2) rfl hX
  have hlen:lenV Tryz.prog h 28 v=some (.int .i64 now.length):=aW aK hv
  by_cases cI:i<512
  ·have hb:now[i]?=some (now[i]'(by omega)):=bx _
   generalize (now[i]'(by omega))=b at hb
   have hc:dX[i]?=some (dX[i]'(by omega)):=bx _
   generalize (dX[i]'(by omega))=c at hc
   obtain⟨id,off,e1,e2⟩:=eU hv hb
   obtain⟨Da,off',e3,e4⟩:=eU hu hc
   refine WP.loop (WP.has hE (zK 5 rfl (zo rfl (aN rfl rfl rfl hlen) (zB rfl bh (by grind) ?_))))
   refine zk 3 rfl (WP.block (zK 2 rfl ?_))
   have s0:=s
   refine WP.drawn [ah,ah,ah,ah,ah,ah,ah,ah,ah] rfl (by kernel_rfl) (by kernel_rfl) ?_
   refine zM rfl (zM rfl (zO rfl (cK (r:=.ptr Da off') rfl rfl e3) (zL rfl e4 (zM rfl (zM rfl (zO rfl (cK (r:=.ptr id off) rfl rfl e1) (zL rfl e2 ?_)))))))
   by_cases hbc:c=b
   ·skip
    refine ay.tE rfl rfl rfl rfl (aA rfl rfl eu) (by grind) ?_
    refine ay.nil ⟨⟨aa,aa,aa,aa,aa,aa,aa,aa,aa,aa⟩,?_⟩
    refine zK 4 rfl (zb rfl (by exact bC (aB (by omega) (by omega))) ?_)
    exact zk 2 rfl (WP.exit (ih (i+1) acc av cs h _ Q (by omega) (by omega) (by omega) s (fun l hl=>I l (.skip i l (by omega) (by grind) hl)) ⟨rfl,rfl,rfl,rfl,rfl,aa⟩ hq))
   ·skip
    refine ay.oN rfl rfl rfl rfl (aA rfl rfl eu) (by grind) ?_
    refine ay.nil ⟨⟨aa,aa,aa,aa,aa,aa,aa,aa,aa,aa⟩,?_⟩
    refine zK 5 rfl (zb rfl (by exact bC (aB (by omega) (by omega))) ?_)
    refine zk 8 rfl (WP.block ?_)
    refine TW s (k1:=2) (k2:=3) rfl hX rfl hY qD iW (512-(i+1)) (i+1) (i+1) _ _ (by omega) (A9 i) (aU _) (fun k k1 k2=>absurd k2 (by omega)) ⟨rfl,rfl,rfl,rfl,rfl,rfl,rfl,aa⟩ (fun e' E' he1 Jl he3 jx => ?_)
    refine WP.has jx ?_
    have hsv:=gP hv (a:=i) (b:=e') (by omega) (by omega)
    refine zK 8 rfl (zo rfl (cH (p:=some (.int .i64 (i:Int))) (q:=some (.int .i64 (e':Int))) (m:=none) (p':=some i) (q':=some e') (m':=none) rfl rfl rfl rfl (by rfl) (by rfl) rfl hsv.1) ?_)
    refine zc rfl (mT hT (s.ae [3]) (lG hY (a:=i) (b:=e') (by omega) (by omega)) (by grind)) ?_
    intro w h s
    dsimp only[bringA,getA,aI] at s
    obtain⟨wid,_,J,_,rfl,_⟩:=s.gq (by grind)
    have s:=s.ga
    generalize Iv:(now.take e').drop i=bs at s
    refine zo rfl (cT rfl (by rw[NM];rfl)) ?_
    obtain⟨rv,h1,tF,s1⟩:=jB (P:=Tryz.prog) (k:=4) (x:=.agg [.int .i64 pg,.int .i64 (i:Int),.bool false,.sl wid 0 bs.length J]) s ji oE pK rfl (by decide) (by decide) rfl rfl
    dsimp only[V.cells] at s1
    refine ax.any rfl rfl rfl (OpR.of (R:=fun v h'=>v=rv∧h'=h1) (ke rfl tF) ⟨rfl,rfl⟩) ?_
    rintro v' h' ⟨rfl,rfl⟩
    obtain⟨i1,iu,gW,pz⟩:=u7
    have je:cs.length=acc.length*4:=by
     obtain⟨a,b,q1,q2,q3⟩:=s1.at (k:=4) rfl
     exact pU q3
    obtain⟨mM,h2,sM,s2⟩:=gv (s1.ae [3,0]) ji iu oE gW (by omega) rfl (by decide) (by grind)
    dsimp only[bringA,getA,aI] at s2
    refine ax.any rfl rfl rfl (OpR.of (R:=fun v h'=>v=mM∧h'=h2) (jI rfl rfl sM) ⟨rfl,rfl⟩) ?_
    rintro v' h' ⟨rfl,rfl⟩
    refine za rfl (zv (zr rfl (zk 2 rfl (zv ?_))))
    have s3:Sat _ (dm cs acc::.bY (.sl wid 0 bs.length J) bs::_):=s2.ae [4,2]
    have s4:=s3.two (C:=dm (cs++[.int .i64 pg,.int .i64 (i:Int),.bool false,.sl wid 0 bs.length J]) (acc++[⟨pg,i,false,bs⟩])) (aV.kj _ _) (aV.bY _ _) fun a b q1 q2=>yl q1 ⟨⟨⟨rfl,rfl,rfl⟩,q2⟩,aa⟩
    have s5:=(s4.ae [1,0,2,1]).del 4
    dsimp only[bringA,getA,aI] at s5
    refine ih e' (acc++[⟨pg,(i:Int),false,bs⟩]) _ _ _ _ Q (by omega) Jl (by grind) s5 (fun l hl => ?_) ⟨rfl,rfl,rfl,rfl,rfl,aa⟩ hq
    have:=I _ (.take i e' l he1 (by omega) (fun hx=>by grind) he3 hl)
    rw[Iv] at this
    rwa [cP]
  ·have hi5:i=512:=by omega
   refine WP.loop (WP.has hE (zK 5 rfl (zo rfl (aN rfl rfl rfl hlen) (zC rfl bh (by simp<;>omega) ?_))))
   refine zk 2 rfl (WP.exit ?_)
   have:=I [] (.done _ (by omega))
   rw[dS] at this
   exact hq av cs acc _ _ this (by omega) s ⟨rfl,rfl,aa⟩
theorem QT (hT:W told){pg:Int}(s:Sat h (X::Y::S))(hX:cL X (cQ u dX))(hY:cL Y (cQ v now))(I:dX.length=512)(J:now.length=512):
  Call ⟨Tryz.prog,told⟩ 115 [.int .i64 pg,u,v] h fun w h'=>∃cs l,GP pg dX now l∧l.length≤512∧Sat h' (.arr 4 w cs::dm cs l::X::Y::S):=by
 refine Call.of_wp (hT.free _ rfl) Tryz.func115 rfl rfl (zK 13 rfl (WP.block ?_))
 refine TX hT (pg:=pg) hX hY I J 500 12 [] .a_ [] _ _ _ (by omega) (by omega) (by simp) ((s.gD aa).m6) (fun l hl=>hl) ⟨rfl,rfl,rfl,rfl,rfl,aa⟩ (fun mM cs' l E' h' hr D7 s' jx => ?_)
 have s:=s'
 have hlen:=s.xh (j1:=0) (j2:=1) rfl rfl ji
 have D8:=s.ju (j:=0) rfl
 refine WP.has jx (zK 4 rfl (zo rfl (aN rfl rfl rfl hlen) ?_))
 by_cases xR:l=[]
 ·skip
  refine zB rfl eu (by grind) ?_
  refine zk 5 rfl (zo rfl (cT rfl (by rw[NM];rfl)) ?_)
  obtain⟨rv,h1,tF,s1⟩:=jB (P:=Tryz.prog) (k:=4) (x:=.agg [.int .i64 pg,.int .i64 0,.bool false,.a_]) s ji oE pK rfl (by decide) (by decide) rfl rfl
  dsimp only[V.cells] at s1
  refine ax.any rfl rfl rfl (OpR.of (R:=fun v h'=>v=rv∧h'=h1) (ke rfl tF) ⟨rfl,rfl⟩) ?_
  rintro v' h' ⟨rfl,rfl⟩
  refine zk 2 rfl (WP.ret ⟨aa,_,rfl,?_⟩)
  refine⟨[.int .i64 pg,.int .i64 0,.bool false,.a_],[⟨pg,0,false,[]⟩],⟨l,hr,by grind⟩,by simp,?_⟩
  have s2:=(s1.del 2).del 1
  have s3:Sat _ (.bY .a_ []::.arr 4 v' _::X::Y::S):=s2.sy
  have s4:=s3.gK (B:=dm [.int .i64 pg,.int .i64 0,.bool false,.a_] [⟨pg,0,false,[]⟩]) fun a b q=>⟨⟨⟨rfl,rfl,rfl⟩,q⟩,aa⟩
  exact s4.ae [1,0]
 ·skip
  refine zC rfl eu (by simp_all) ?_
  exact zk 8 rfl (WP.ret ⟨aa,_,rfl,_,l,⟨l,hr,by grind⟩,D7,s⟩)
end
def fU (m:List Fm): Nat:=(m.map (·.changed)).count true
theorem nF {g:Fm}: ∀ {m:List Fm} {i:Nat},m[i]?=some f→fU (m.set i g)+f.changed.toNat=fU m+g.changed.toNat:=by
 intro m
 induction m with
 |nil=>simp
 |cons x m I =>
  intro i h
  cases i<;>grind[fU]
theorem D9 {g:Fm}(I:g.changed=false): ∀ {m:List Fm} {i:Nat},fU (m.set i g)≤fU m:=by
 intro m i
 cases h:m[i]? with
 |none =>
  grind[List.set_eq_of_length_le]
 |some f =>
  have:=nF (g:=g) h
  grind
def bM (ε:aX): Nat:=ε.2.2.waiting.length+fU ε.1.ai
theorem kD : ε.2.2.waiting.length≤bM ε:=Bb _ _
theorem f_.count (I:f_ π bR): fU bR.ai=fU π.ai:=by
 have:bR.ai.map (·.changed)=π.ai.map (·.changed):=by
  refine uc fun i => ?_
  rw[qf,qf]
  cases h:π.ai[i]? with
  |none =>
   have J:π.ai.length≤i:=by grind
   have:bR.ai[i]?=none:=by simp[I.len,J]
   rw[this]
  |some f =>
   obtain⟨t,ht⟩:=I.get i f h
   rw[ht];rfl
 simp only[fU,this]
theorem Jm (h:(δ.bz n b).1≠0): (δ.bz n b).2.waiting=δ.waiting:=by
 unfold Dk.bz at h ⊢
 split
 ·rfl
 ·rename_i I
  split
  ·rfl
  ·rename_i J
   split
   ·rfl
   grind
theorem Jn : bM (outF ε i).2≤bM ε:=by
 grind[outF,bM,mq,Jm,Cb,nF]
theorem AI : fU (dF π i f).ai≤fU π.ai:=D9 rfl
theorem fE.bM (J:fE ε n e b af): Am.bM af≤Am.bM ε:=by
 have r_:∀ {bR:Pl},f_ ε.1 bR→∀i,Am.bM (outF (bR,ε.2) i).2≤Am.bM ε:=fun {bR} I i=>by
  have:=Jn (ε:=(bR,ε.2)) (i:=i)
  refine bX this ?_
  simp only[Am.bM,I.count]
  exact aU _
 cases J with
 |arg _=>simp
 |AE i f h1 h2 hl hf =>
  grind[nF,Am.bM]
 |out bR i f h1 h2 hl I hf hh he=>grind
 |read bR i f h1 h2 hl I hf hh he J=>exact bX (wm AI _) (r_ I i)
 |bad bR i f h1 h2 hl I hf hh he J hc=>exact bX (wm AI _) (r_ I i)
 |load bR i f h1 h2 hl I hf hh he J hc=>exact bX (wm (bX (D9 rfl) AI) _) (r_ I i)
theorem D_ : fU (unpinF π n).2.ai=fU π.ai:=by
 grind[unpinF,nF]
theorem my.bM (I:my ε n e b af): Am.bM af≤Am.bM ε:=by
 cases I with
 |dead _=>simp
 |jj e b af hd I he=>exact I.bM
 |tU b af hd I he=>have:=I.bM;grind[Am.bM,D_]
 |read b af hd I he=>have:=I.bM;grind[Am.bM,D_]
theorem GRd.bM {cu:Bool}(I:GRd ε now cu n e b af): Am.bM af≤Am.bM ε:=by
 cases I with
 |arg _=>simp
 |cu _ _ _=>simp
 |own _ _ _ _ _=>simp
 |read e b af J h2 h3 hl I=>exact I.bM
theorem om.bM {cu:Bool}(I:om ε now cu n b e bL af): Am.bM af≤Am.bM ε:=by
 cases I with
 |may e c af I he=>exact I.bM
 |bad c af I J=>exact I.bM
 |done c af I J=>exact I.bM
inductive ChR (now:List (Int×List Nat)): List Int→aX→Int→List cq→aX→Prop where
 |nil (ε:aX):ChR now [] ε 0 [] ε
 |err (n:Int) (l:List Int) (ε:aX) (e:Int) (b:List Nat) (af:aX) (hr:my ε n e b af) (he:e≠0):ChR now (n::l) ε e [] af
 |part (n:Int) (l:List Int) (ε:aX) (dX b:List Nat) (af:aX) (c:List cq) (e:Int) (cs:List cq) (lz:aX) (hr:my ε n 0 dX af) (hb:lookL n now=some b) (hd:(lookL n af.1.br).isSome=true) (hc:GP n dX b c) (hl:c.length≤512) (ht:ChR now l af e cs lz):ChR now (n::l) ε e (c++cs) lz
 |whole (n:Int) (l:List Int) (ε:aX) (dX b:List Nat) (af:aX) (e:Int) (cs:List cq) (lz:aX) (hr:my ε n 0 dX af) (hb:lookL n now=some b) (hd:(lookL n af.1.br).isSome=false) (ht:ChR now l af e cs lz):ChR now (n::l) ε e (⟨n,0,true,b⟩::cs) lz
theorem ChR.jk {l:List Int}{cs:List cq}(I:ChR now l ε e cs af)(h:fG ε): fG af:=by
 induction I with
 |nil ε=>exact h
 |err n l ε e b af I he=>exact I.jk h
 |part n l ε dX b af c e cs J I hb hd hc hl ht ih=>exact ih (I.jk h)
 |whole n l ε dX b af e cs J I hb hd ht ih=>exact ih (I.jk h)
theorem ChR.bM {l:List Int}{cs:List cq}(I:ChR now l ε e cs af): Am.bM af≤Am.bM ε:=by
 induction I with
 |nil ε=>simp
 |err n l ε e b af I he=>exact I.bM
 |part n l ε dX b af c e cs J I hb hd hc hl ht ih=>exact bX ih I.bM
 |whole n l ε dX b af e cs J I hb hd ht ih=>exact bX ih I.bM
theorem pX {b:Nat}{v w:V}(I:look E a=some v)(J:look E b=some w): resLE P E h [.tmp a,.tmp b]=some (.bf [v,w]):=by grind[resLE,mapO,resE]
section
variable {told:cR} {p:Nat} {op v:V} {cu:Bool}
theorem yp (I:W told)(s:Sat h S): Call ⟨Tryz.prog,told⟩ 62 [.map id] h fun v h'=>∃b,v=.fn (.func 120) [] [.ptr b 0]∧Sat h' (pt b (.cells 1 [.map id] false)::S):=by
 refine Call.of_wp (I.free _ rfl) Tryz.func62 rfl rfl (zg rfl ?_)
 refine ax.cm s rfl rfl rfl (fY rfl rfl) (fun p1 h s => ?_)
 exact zk 4 rfl (zo rfl (Bu rfl rfl) (zk 2 rfl (WP.ret ⟨aa,_,rfl,_,rfl,s⟩)))
theorem QU (I:W told)(s:Sat h (gC g a now cu::S))(hm:now.length≤1048576)(hk:∀n∈now.map (·.1),(Lit.int .i64 n).wf=true):
  Call ⟨Tryz.prog,told⟩ 112 [.ptr g 0] h fun v h'=>Sat h' (.arr 1 v (fL (aF now))::gC g a now cu::S):=by
 obtain⟨nv,s⟩:=fb.1 s
 obtain⟨J,rfl⟩:=DQ s (j:=1) rfl
 refine Call.of_wp (I.free _ rfl) Tryz.func112 rfl rfl (zK 8 rfl (zY s 0 rP jT rfl (zc rfl (yp I s) ?_)))
 rintro v h ⟨b,rfl,s⟩
 refine zc rfl (sN I (s.ae [0,1]) (by decide) hm hk) ?_
 intro kv h s
 exact zk 2 rfl (WP.ret ⟨aa,_,rfl,(fb.2 ⟨.map J,(s.ae [3,2,0]).del 3⟩).ae [1]⟩)
noncomputable def cgL : Code:=cN [1,1,0,1,0,0] ((Tryz.f58.body).getD .skip)
theorem Jo (hT:W told)(ZT:ks.length≤65536)(mN:∀n∈ks,(lookL n now).isSome=true)(tw:∀e∈now,e.2.length=512): ∀(j i:Nat) (acc:List cq) (av:V) (cs:List V) (ε:aX) (h:H) (E:List (Nat×V)) (Q:Ex→List (Nat×V)→H→Prop),i+j=ks.length →
  fG ε→bM ε≤268435456→acc.length≤512*i →
  Sat h (.arr 4 av cs::dm cs acc::gC g a now cu::ew a p q r op data aC::dO r p q ε.1::b7 q p ε.2.1::aS p ε.2.2::.arr 1 kv (fL ks)::S) →
  Has E [(0,.ptr g 0),(4,av),(13,kv),(14,.int .i64 ks.length),(15,.int .i64 i)] →
  (∀e c af E' h',ChR now (ks.drop i) ε e c af→e≠0→look E' 2=some .a_→look E' 3=some (.int .i64 e)→Sat h' (gC g a now cu::ew a p q r op data aC::dO r p q af.1::b7 q p af.2.1::aS p af.2.2::S)→Q .ret E' h') →
  (∀c af E' h' mM cs',ChR now (ks.drop i) ε 0 c af→acc.length+c.length≤512*ks.length→Has E' [(4,mM)]→Sat h' (.arr 4 mM cs'::dm cs' (acc++c)::gC g a now cu::ew a p q r op data aC::dO r p q af.1::b7 q p af.2.1::aS p af.2.2::S)→Q (.exit 0) E' h') →
  WP ⟨Tryz.prog,told⟩ 65 (.loop cgL) E h Q:=by
 intro j
 induction j with
 |zero =>
  intro i acc av cs ε h E Q hj eY hw Z3 s hE hr hx
  refine WP.loop (WP.has hE (zg rfl (zC rfl bh (by grind) ?_)))
  refine zk 3 rfl (WP.exit ?_)
  rw[lX (by omega)] at hx
  have s1:=s.del 7
  dsimp only[aI] at s1
  refine hx [] ε _ _ av cs (.nil ε) (by grind) ⟨rfl,aa⟩ ?_
  rw[dS]
  exact s1
 |succ j ih =>
  intro i acc av cs ε h E Q hj eY hw Z3 s hE hr hx
  have hn:ks[i]?=some (ks[i]'(by omega)):=bx _
  have uJ:ks[i]'(by omega)∈ks:=Ba _
  have oG:ks.drop i=ks[i]'(by omega)::ks.drop (i+1):=qa (by omega)
  generalize (ks[i]'(by omega))=n at hn uJ oG
  have hc:(fL ks)[i]?=some (.int .i64 n):=by simp[fL,hn]
  obtain⟨b,hb⟩:=Option.isSome_iff_exists.1 (mN n uJ)
  have HS:=tw _ (fJ hb)
  simp only at HS
  rw[oG] at hr hx
  obtain⟨id,off,e1,e2⟩:=gJ (P:=Tryz.prog) s (k:=7) rfl hc cf jF
  refine WP.loop (WP.has hE (zg rfl (zB rfl bh (by grind) ?_)))
  refine zk 5 rfl (WP.block (zg rfl (zo rfl (cK (r:=.ptr id off) rfl rfl e1) (zl rfl (e2 _ dN) ?_))))
  obtain⟨nv,s⟩:=fb.1 (s.ae [2])
  dsimp only[bringA,getA,aI] at s
  refine zk 6 rfl (zY s 0 qo Aj rfl (zm rfl (zc rfl (CL (n:=n) hT (s.ae [4,4,4,4]) eY.ok eY.pins (bX kD hw)) ?_)))
  rintro v h ⟨e,w,af,J,(⟨he,rfl,s⟩|⟨rfl,u,rfl,s⟩)⟩
  ·dsimp only[bringA,getA,aI] at s
   refine zk 10 rfl (zB rfl aE (by grind) ?_)
   refine zk 8 rfl (WP.ret (hr e [] af _ _ (.err n _ ε e w af J he) he rfl rfl ?_))
   have s:=fb.2 ⟨nv,s.ae [4,4]⟩
   dsimp only[bringA,getA,aI] at s
   exact((s.del 7).del 6).del 5
  ·dsimp only[bringA,getA,aI] at s
   have rq:=J.jk eY
   have pn:=bX J.bM hw
   have hlen:=J.len eY
   refine zk 10 rfl (zC rfl aE (rfl) ?_)
   have s:=s.ga
   have s:=s.ae [5,5,1,1,1,1,1,1,1,0]
   dsimp only[bringA,getA,aI] at s
   rcases mK (n:=n) (fun _ _=>aV.bY _ _) (s.ae [1]) k_ bT oT with⟨g1,g2,_⟩|⟨nw,b',g1,_,g2,s2⟩
   ·grind
   rw[hb] at g1
   have:=cA g1
   subst this
   refine zk 7 rfl (zY s 0 rP jT rfl (zm rfl (zo rfl (iL rfl rfl g2) ?_)))
   obtain⟨dv,s⟩:=cy.1 (s2.ae [3])
   dsimp only[bringA,getA,aI] at s
   have s:=s.ae [4]
   dsimp only[bringA,getA,aI] at s
   refine zk 6 rfl (zY s 0 qo Aj rfl (zn rfl (zY s 1 qq vt rfl (zm rfl (zc rfl (ZR (n:=n) hT (s.ae [5])) ?_)))))
   rintro v h ⟨rfl,s⟩
   dsimp only[bringA,getA,aI] at s
   refine zk 10 rfl ?_
   cases hd:(lookL n af.1.br).isSome with
   |true =>
    refine zK 6 rfl (zc rfl (QT hT (u:=u) (v:=nw) (pg:=n) (s.ae [11,4]) (c8 _ _) (c8 _ _) hlen HS) ?_)
    rintro rv h ⟨Z4,c,hc,je,s⟩
    dsimp only[bringA,getA,aI] at s
    obtain⟨i1,iu,gW,pz⟩:=u7
    have TY:cs.length=acc.length*4:=by
     obtain⟨a,b,q1,q2,q3⟩:=s.at (k:=12) rfl
     exact pU q3
    have TZ:Z4.length=c.length*4:=by
     obtain⟨a,b,q1,q2,q3⟩:=s.at (k:=1) rfl
     exact pU q3
    obtain⟨mM,h2,sM,s2⟩:=gv (s.ae [11,0]) ji iu oE gW (by omega) rfl (by decide) (by omega)
    dsimp only[bringA,getA,aI] at s2
    refine ax.any rfl rfl rfl (OpR.of (R:=fun v h'=>v=mM∧h'=h2) (jI rfl rfl sM) ⟨rfl,rfl⟩) ?_
    rintro v' h' ⟨rfl,rfl⟩
    refine za rfl (zv (zr rfl (zb rfl (by exact bC (aB (by omega) (by omega))) ?_)))
    refine zm rfl (zv ?_)
    have s3:Sat _ (dm cs acc::dm Z4 c::_):=s2.ae [12,2]
    have s4:=s3.two (C:=dm (cs++Z4) (acc++c)) (aV.kj _ _) (aV.kj _ _) fun a b q1 q2=>yl q1 q2
    dsimp only[bringA,getA,aI] at s4
    have s5:=cy.2 ⟨dv,s4.ae [7,7]⟩
    dsimp only[bringA,getA,aI] at s5
    have s6:=fb.2 ⟨nv,s5.ae [7,7]⟩
    dsimp only[bringA,getA,aI] at s6
    have s7:=(((s6.ae [3,2,0,0,3,3,3,3]).del 10).del 9).del 8
    dsimp only[bringA,getA,aI] at s7
    refine ih (i+1) (acc++c) _ _ af _ _ Q (by omega) rq pn (by grind) s7 ⟨rfl,rfl,rfl,rfl,rfl,aa⟩ (fun e c' I E' h' ht he l2 l3 s' => ?_) (fun c' I E' h' T0 T1 ht hl jx s' => ?_)
    ·exact hr e _ I E' h' (.part n _ ε w b af c e c' I J hb hd hc je ht) he l2 l3 s'
    ·refine hx (c++c') I E' h' T0 T1 (.part n _ ε w b af c 0 c' I J hb hd hc je ht) (by grind) jx ?_<;>grind
   |false =>
    refine zK 5 rfl (zc rfl (mT hT (s.ae [4]) (c8 _ _) (by omega)) ?_)
    intro cw h s
    dsimp only[bringA,getA,aI] at s
    obtain⟨wid,_,T2,_,rfl,_⟩:=s.gq (by omega)
    have s:=s.ga
    refine zo rfl (cT rfl (by rw[NM];rfl)) ?_
    obtain⟨rv,h1,tF,s1⟩:=jB (P:=Tryz.prog) (k:=4) (x:=.agg [.int .i64 n,.int .i64 0,.bool true,.sl wid 0 b.length T2]) s ji oE pK rfl (by decide) (by decide) rfl rfl
    dsimp only[V.cells] at s1
    refine ax.any rfl rfl rfl (OpR.of (R:=fun v h'=>v=rv∧h'=h1) (ke rfl tF) ⟨rfl,rfl⟩) ?_
    rintro v' h' ⟨rfl,rfl⟩
    obtain⟨i1,iu,gW,pz⟩:=u7
    have TY:cs.length=acc.length*4:=by
     obtain⟨a,b,q1,q2,q3⟩:=s1.at (k:=11) rfl
     exact pU q3
    obtain⟨mM,h2,sM,s2⟩:=gv (s1.ae [10,0]) ji iu oE gW (by omega) rfl (by decide) (by grind)
    dsimp only[bringA,getA,aI] at s2
    refine ax.any rfl rfl rfl (OpR.of (R:=fun v h'=>v=mM∧h'=h2) (jI rfl rfl sM) ⟨rfl,rfl⟩) ?_
    rintro v' h' ⟨rfl,rfl⟩
    refine za rfl (zv (zr rfl (zb rfl (by exact bC (aB (by omega) (by omega))) ?_)))
    refine zm rfl (zv ?_)
    have s3:Sat _ (dm cs acc::.bY (.sl wid 0 b.length T2) b::_):=s2.ae [11,2]
    have s4:=s3.two (C:=dm (cs++[.int .i64 n,.int .i64 0,.bool true,.sl wid 0 b.length T2]) (acc++[⟨n,0,true,b⟩])) (aV.kj _ _) (aV.bY _ _) fun a b q1 q2=>yl q1 ⟨⟨⟨rfl,rfl,rfl⟩,q2⟩,aa⟩
    have s5:=cy.2 ⟨dv,s4.ae [6,6]⟩
    have s6:=fb.2 ⟨nv,s5.ae [6,6]⟩
    have s7:=(((s6.ae [3,2,0,0,2,2,2,2]).del 10).del 9).del 8
    dsimp only[bringA,getA,aI] at s7
    refine ih (i+1) (acc++[⟨n,0,true,b⟩]) _ _ af _ _ Q (by omega) rq pn (by grind) s7 ⟨rfl,rfl,rfl,rfl,rfl,aa⟩ (fun e c' I E' h' ht he l2 l3 s' => ?_) (fun c' I E' h' T0 T1 ht hl jx s' => ?_)
    ·exact hr e _ I E' h' (.whole n _ ε w b af e c' I J hb hd ht) he l2 l3 s'
    ·refine hx (⟨n,0,true,b⟩::c') I E' h' T0 T1 (.whole n _ ε w b af 0 c' I J hb hd ht) (by grind) jx ?_<;>grind
theorem Ol (J:W told)(s:Sat h (gC g a now cu::ew a p q r op data aC::dO r p q ε.1::b7 q p ε.2.1::aS p ε.2.2::S))(eY:fG ε)(hw:bM ε≤268435456)(I:∀e∈now,e.2.length=512)(hm:now.length≤65536)(hk:∀n∈now.map (·.1),(Lit.int .i64 n).wf=true):
  Call ⟨Tryz.prog,told⟩ 58 [.ptr g 0] h fun v h'=>∃e c af,ChR now (aF now) ε e c af ∧
   ((e≠0∧v=.bf [.a_,.int .i64 e]∧Sat h' (gC g a now cu::ew a p q r op data aC::dO r p q af.1::b7 q p af.2.1::aS p af.2.2::S)) ∨
    (e=0∧c.length≤33554432∧∃av cs,v=.bf [av,.int .i64 0]∧Sat h' (.arr 4 av cs::dm cs c::gC g a now cu::ew a p q r op data aC::dO r p q af.1::b7 q p af.2.1::aS p af.2.2::S))):=by
 have hl:(aF now).length=now.length:=by rw[aF,(eL _).length_eq,jl]
 refine Call.of_wp (J.free _ rfl) Tryz.func58 rfl rfl (zK 13 rfl (zc rfl (QU J s (by omega) hk) ?_))
 intro kv h s
 refine zo rfl (aN rfl rfl rfl (s.dZ (n:=(aF now).length) (j:=0) rfl (by simp[fL]) (by decide) cf)) ?_
 refine zk 2 rfl (WP.block ?_)
 have s1:=(((s.gD aa).m6 (k:=4)).gK fun a b q=>q).ae [0,0,1,1,1,1,1,0]
 refine Jo J (ks:=aF now) (now:=now) (by omega) (fun n hn => ?_) I (aF now).length 0 [] .a_ [] ε _ _ _ (by omega) eY hw (by simp) s1 ⟨rfl,rfl,rfl,rfl,rfl,aa⟩ (fun e c af E' h' hr he l2 l3 s' => ?_) (fun c af E' h' av cs hr je jx s' => ?_)
 ·have:n∈now.map (·.1):=(eL _).mem_iff.1 hn
  cases hq:lookL n now<;>grind[gx]
 ·exact⟨aa,_,pX l2 l3,e,c,af,hr,.inl ⟨he,rfl,s'⟩⟩
 ·have s:=s'
  exact WP.has jx (zK 6 rfl (WP.ret ⟨aa,_,rfl,0,c,af,hr,.inr ⟨rfl,by omega,_,_,rfl,s⟩⟩))
end
theorem AJ {n:Nat}(I:bW b=true): (cW b n).length=512:=by
 have J:=yj (n:=n) (eB I)
 rw[cW,c9 (by rw[dL];omega),J]
def ja (π:Pl)(n:Int)(b:List Nat)(aO:Nat): Int×Pl :=
 (if (lK π n b aO).1=0 then(unpinF (lK π n b aO).2 n).1 else(lK π n b aO).1,(unpinF (lK π n b aO).2 n).2)
def vV (π:Pl)(n:Int)(i:Nat)(f:Fm)(b:List Nat)(aO:Nat): Pl :=
 { π with ai:=π.ai.set i { f with b:=cW b aO,changed:=true,pins:=0 },br:=cD n (dirtOf π n aO,true) π.br }
theorem tV (J:lookL n π.aH=some (i:Int))(I:π.ai[i]?=some f)(hp:f.pins=1)(hg:bW b=true): ja π n b aO=(0,vV π n i f b aO):=by
 have h1:=(u5 J I hp).1
 have hi:=(List.getElem?_eq_some_iff.1 I).1
 have e1:lK π n b aO=(0,{ π with ai:=π.ai.set i { f with b:=cW b aO,changed:=true },br:=cD n (dirtOf π n aO,true) π.br }):=by
  simp only[lK,h1,I,hg,Bool.true_eq_false,fQ]
 have e2:=(u5 (π:={ π with ai:=π.ai.set i { f with b:=cW b aO,changed:=true },br:=cD n (dirtOf π n aO,true) π.br }) (n:=n) (f:={ f with b:=cW b aO,changed:=true }) J (kM hi) hp).2
 simp only[ja,e1,e2,cY,List.set_set]
 rfl
theorem QV (J:lookL n π.aH=some (i:Int))(I:π.ai[i]?=some f)(hp:f.pins=1)(hg:bW b=false): ja π n b aO=(4,{ π with ai:=π.ai.set i { f with pins:=0 } }):=by
 have h1:=(u5 J I hp).1
 have e1:lK π n b aO=(4,π):=by simp only[lK,h1,I,hg,cY]
 have e2:=(u5 J I hp).2
 simp only[ja,e1,e2]
 rfl
theorem XD (h:π.Ok): (lK π n b aO).2.Ok:=by
 unfold lK
 split
 ·exact h
 ·split
  ·exact h
  ·rename_i f J
   have hm:=bD J
   split
   ·exact h
   ·rename_i I
    have I:bW b=true:=by simpa using I
    exact h.set h.aH (by simp only[AJ I];omega) (h.pins f hm)
theorem fE.put {b0:List Nat}(hr:fE ε n 0 b0 af)(h:fG ε): fG ((ja af.1 n b aO).2,af.2)∧Am.bM ((ja af.1 n b aO).2,af.2)≤Am.bM ε+1∧(bW b=true→(ja af.1 n b aO).1=0):=by
 have I:=hr.ok h.ok h.pins
 have J:=(hr.full h.ok.dk h.full).1
 obtain⟨i,f,h1,h2,h3,h4,h5⟩:=hr.at h.pins
 have hm:=bD h2
 have u9:=hr.bM
 cases hg:bW b with
 |true =>
  rw[tV h1 h2 h3 hg]
  refine⟨⟨⟨I.pl.set I.pl.aH (by simp only[AJ hg];omega) (by simp),I.lg,I.dk⟩,h5 _ rfl,J.set h2 rfl fun _=>AJ hg⟩,?_,fun _=>rfl⟩
  have h6:=nF (g:={ f with b:=cW b aO,changed:=true,pins:=0 }) h2
  simp only[Bool.toNat_true] at h6
  simp only[Am.bM,vV] at u9 ⊢
  omega
 |false =>
  rw[QV h1 h2 h3 hg]
  refine⟨⟨⟨I.pl.set I.pl.aH (I.pl.len f hm) (by simp),I.lg,I.dk⟩,h5 _ rfl,J.set h2 rfl fun hl=>hl⟩,?_,fun h=>by cases h⟩
  have h6:=nF (g:={ f with pins:=0 }) h2
  simp only[Am.bM] at u9 h6 ⊢
  omega
inductive PtR (now:List (Int×List Nat))(aO:Nat): List Int→aX→Int→aX→Prop where
 |nil (ε:aX):PtR now aO [] ε 0 ε
 |jj (n:Int) (l:List Int) (ε:aX) (e:Int) (b:List Nat) (af:aX) (hr:fE ε n e b af) (he:e≠0):PtR now aO (n::l) ε e af
 |bad (n:Int) (l:List Int) (ε:aX) (b0 b:List Nat) (af:aX) (hr:fE ε n 0 b0 af) (hb:lookL n now=some b) (he:(ja af.1 n b aO).1≠0):PtR now aO (n::l) ε (ja af.1 n b aO).1 ((ja af.1 n b aO).2,af.2)
 |put (n:Int) (l:List Int) (ε:aX) (b0 b:List Nat) (af:aX) (e:Int) (lz:aX) (hr:fE ε n 0 b0 af) (hb:lookL n now=some b) (he:(ja af.1 n b aO).1=0) (ht:PtR now aO l ((ja af.1 n b aO).2,af.2) e lz):PtR now aO (n::l) ε e lz
theorem PtR.jk {l:List Int}(I:PtR now aO l ε e af)(h:fG ε): fG af:=by
 induction I with
 |nil ε=>exact h
 |jj n l ε e b af I he=>exact⟨I.ok h.ok h.pins,I.Mu he h.pins,(I.full h.ok.dk h.full).1⟩
 |bad n l ε b0 b af I hb he=>exact(I.put h).1
 |put n l ε b0 b af e J I hb he ht ih=>exact ih (I.put h).1
theorem PtR.bM {l:List Int}(I:PtR now aO l ε e af)(h:fG ε): Am.bM af≤Am.bM ε+l.length:=by
 induction I with
 |nil ε=>exact aU _
 |jj n l ε e b af I he=>have:=I.bM;omega
 |bad n l ε b0 b af I hb he=>have:=(I.put (b:=b) (aO:=aO) h).2.1;simp only[bF];omega
 |put n l ε b0 b af e J I hb he ht ih=>have h1:=ih (I.put h).1;have:=(I.put (b:=b) (aO:=aO) h).2.1;simp only[bF];omega
theorem abz {c:Nat}{k:IntKind}{z:V}(J:T.get h.tr id=some (.map (es.map eR) c))(he:lookE n es=some u)(hu:Tryz.prog.underlying t=some (.map kt et))(hk:Tryz.prog.underlying kt=some (.int k))(hz:zeroT Tryz.prog et=some z):
  fR Tryz.prog h t (.map id) (.int .i64 n) false=some u:=by
 have hi:=qy (n:=n) es 0
 simp only[fR,lookupV,hu,hk,hz,J,keyBeq,dx,aj,rV]
 cases I:idxE n es 0 with
 |none=>rw[I] at hi;rw[he] at hi;cases hi
 |some q=>rw[I] at hi;rw[he] at hi;obtain⟨j,w⟩:=q;have:=cA hi;simp only at this;subst this;rfl
section
variable {told:cR} {p:Nat} {op v:V} {cu:Bool}
noncomputable def dnL : Code:=cN [1,1,1,1,1,1,1,1,0,1,0,0] ((Tryz.f26.body).getD .skip)
theorem QW (hT:W told){dv:V}{xk c:Nat}(ZT:ks.length≤65536)(mN:∀n∈ks,(lookL n now).isSome=true)(tw:∀e∈now,e.2.length=512): ∀(j i:Nat) (ε:aX) (h:H) (E:List (Nat×V)) (Q:Ex→List (Nat×V)→H→Prop),i+j=ks.length →
  fG ε→bM ε+j≤268435456 →
  Sat h (pt g (.cells 3 [.ptr a 0,.map xk,.bool cu] false)::gB xk es c::eV (fun v b=>.bY v b) es now::pt a (.cells 6 (sS a p q r op dv aC) false)::dO r p q ε.1::b7 q p ε.2.1::aS p ε.2.2::.arr 1 kv (fL ks)::S) →
  Has E [(0,.ptr g 0),(6,.ptr a 0),(8,.int .u64 (aO:Int)),(73,kv),(74,.int .i64 ks.length),(75,.int .i64 i)] →
  (∀e af E' h',PtR now aO (ks.drop i) ε e af→e≠0→look E' 4=some (.int .u64 0)→look E' 5=some (.int .i64 e)→Sat h' (pt g (.cells 3 [.ptr a 0,.map xk,.bool cu] false)::gB xk es c::eV (fun v b=>.bY v b) es now::pt a (.cells 6 (sS a p q r op dv aC) false)::dO r p q af.1::b7 q p af.2.1::aS p af.2.2::S)→Q .ret E' h') →
  (∀af E' h',PtR now aO (ks.drop i) ε 0 af→Has E' [(8,.int .u64 (aO:Int))]→Sat h' (pt g (.cells 3 [.ptr a 0,.map xk,.bool cu] false)::gB xk es c::eV (fun v b=>.bY v b) es now::pt a (.cells 6 (sS a p q r op dv aC) false)::dO r p q af.1::b7 q p af.2.1::aS p af.2.2::S)→Q (.exit 1) E' h') →
  WP ⟨Tryz.prog,told⟩ 118 (.loop dnL) E h Q:=by
 intro j
 induction j with
 |zero =>
  intro i ε h E Q hj I hw s hE hr hx
  refine WP.loop (WP.has hE (zg rfl (zC rfl bh (by simp<;>omega) ?_)))
  refine zk 3 rfl (WP.exit ?_)
  rw[lX (by omega)] at hx
  exact hx ε _ _ (.nil ε) ⟨rfl,aa⟩ (s.del 7)
 |succ j ih =>
  intro i ε h E Q hj I hw s hE hr hx
  have hn:ks[i]?=some (ks[i]'(by omega)):=bx _
  have uJ:ks[i]'(by omega)∈ks:=Ba _
  have oG:ks.drop i=ks[i]'(by omega)::ks.drop (i+1):=qa (by omega)
  generalize (ks[i]'(by omega))=n at hn uJ oG
  have hc:(fL ks)[i]?=some (.int .i64 n):=by simp[fL,hn]
  obtain⟨b,hb⟩:=Option.isSome_iff_exists.1 (mN n uJ)
  have HS:=tw _ (fJ hb)
  simp only at HS
  rw[oG] at hr hx
  obtain⟨id,off,e1,e2⟩:=gJ (P:=Tryz.prog) s (k:=7) rfl hc cf jF
  refine WP.loop (WP.has hE (zg rfl (zB rfl bh (by simp<;>omega) ?_)))
  refine zk 5 rfl (WP.block (zg rfl (zo rfl (cK (r:=.ptr id off) rfl rfl e1) (zl rfl (e2 _ dN) (zk 7 rfl (zY s 3 qq vt rfl (zm rfl (zc rfl (QF (n:=n) hT (s.ae [4,4,4]) I.ok.pl I.pins I.ok.lg I.ok.dk (by have:=kD (ε:=ε);omega)) ?_))))))))
  rintro v h ⟨e,b0,af,Jp,(⟨he,rfl,s⟩|⟨rfl,u0,rfl,s⟩)⟩
  ·dsimp only[bringA,getA,aI] at s
   refine zk 9 rfl (zB rfl aE (by simp;exact he) ?_)
   exact zk 8 rfl (WP.ret (hr e af _ _ (.jj n _ ε e b0 af Jp he) he rfl rfl ((s.ae [3,3,3,3,0,0,0]).del 7)))
  ·dsimp only[bringA,getA,aI] at s
   have s:=s.drop
   have T3:=Jp.put (b:=b) (aO:=aO) I
   have gT:=Jp.ok I.ok I.pins
   refine zk 9 rfl (zC rfl aE (rfl) (zk 4 rfl ?_))
   have s1:Sat h (eV (fun v b=>.bY v b) es now::_):=s.ae [5]
   obtain⟨_,_,_,_,q3⟩:=s1.at (k:=0) rfl
   rcases tS (n:=n) q3 with⟨_,q4⟩|⟨u,b',g1,g2,_⟩
   ·rw[hb] at q4;cases q4
   rw[hb] at g2
   have:=cA g2
   subst this
   have s2:=(s1.dup (aV.IN (fun _ _=>aV.bY _ _) _ _)).gK (B:=.bY u b) fun a' b' h'=>by
    rcases tS (n:=n) h' with⟨_,q4⟩|⟨u',b'',g1',g2',g3'⟩
    ·rw[hb] at q4;cases q4
    ·rw[g1] at g1';rw[hb] at g2'
     have h5:=cA g1'
     have h6:=cA g2'
     subst h5;subst h6
     exact g3'
   dsimp only[bringA,getA,aI] at s2
   obtain⟨uid,aek,ael,rfl⟩:=iY (s2.aD (k:=0) rfl (c8 _ _)) (by omega)
   have s:=s2.ae [2,0]
   dsimp only[bringA,getA,aI] at s
   have s0:=s
   refine WP.drawn [ah,ah,ah,ah,ah,ah,ah,ah,ah,ah,ah,ah,ah,ah] rfl (by kernel_rfl) (by kernel_rfl) ?_
   refine zM rfl (zN rfl (zF rfl (qq _ _) (zL rfl (s.ld (k:=7) rfl vt rfl) (zM rfl (zM rfl (zN rfl (zF rfl (rP _ _) (zL rfl (s.ld (k:=5) rfl jT rfl) (zM rfl (zO rfl (iL rfl rfl (abz (s.row (k:=6) rfl) g1 k_ bT oT)) (zM rfl (ay.any rfl rfl rfl rfl (OpR.call rfl rfl rfl rfl (Xt (n:=n) (aO:=aO) (b:=b) hT s (c8 _ _) gT.pl (by omega))) ?_))))))))))))
   rintro v h ⟨rfl,s⟩
   refine zA rfl ?_
   refine ay.nil ⟨⟨aa,aa,aa,aa,aa,aa,aa,aa,aa,aa,aa,aa,aa,aa,aa⟩,?_⟩
   refine zK 5 rfl (zY s 7 qq vt rfl (zm rfl (zc rfl (I9 (n:=n) hT s (XD gT.pl)) ?_)))
   rintro v h ⟨rfl,s⟩
   refine zk 5 rfl ?_
   by_cases hg:(lK af.1 n b aO).1=0
   ·have Mv:(ja af.1 n b aO).1=(unpinF (lK af.1 n b aO).2 n).1:=by simp only[ja,hg,cY]
    have Mw:(ja af.1 n b aO).2=(unpinF (lK af.1 n b aO).2 n).2:=rfl
    rw[←Mv,←Mw] at *
    refine zB rfl eu (by simp;exact hg) ?_
    refine zk 9 rfl ?_
    by_cases he:(ja af.1 n b aO).1=0
    ·skip
     refine zC rfl aE (by simp;exact he) ?_
     refine zv (zj rfl (WP.skip (zr rfl (zb rfl (by exact bC (aB (by omega) (by omega))) ?_))))
     refine zm rfl (zv ?_)
     have s9:=(s.ae [5,5,2,4,0,1,1,1]).del 8
     refine ih (i+1) ((ja af.1 n b aO).2,af.2) _ _ Q (by omega) T3.1 (by have h9:bM ((ja af.1 n b aO).2,af.2)≤bM ε+1:=T3.2.1;omega) s9 ⟨rfl,rfl,rfl,rfl,rfl,rfl,aa⟩ (fun e J E' h' ht Dj l4 l5 s' => ?_) (fun J E' h' ht jx s' => ?_)
     ·exact hr e J E' h' (.put n _ ε b0 b af e J Jp hb he ht) Dj l4 l5 s'
     ·exact hx J E' h' (.put n _ ε b0 b af 0 J Jp hb he ht) jx s'
    ·skip
     refine zB rfl aE (by simp;exact he) ?_
     exact zk 8 rfl (WP.ret (hr _ _ _ _ (.bad n _ ε b0 b af Jp hb he) he rfl rfl (((s.ae [5,5,2,4,0,1,1,1]).del 8).del 7)))
   ·have Mv:(ja af.1 n b aO).1=(lK af.1 n b aO).1:=by simp only[ja,hg,fQ]
    have Mw:(ja af.1 n b aO).2=(unpinF (lK af.1 n b aO).2 n).2:=rfl
    rw[←Mv] at hg
    refine zC rfl eu (by simp;rw[←Mv];exact hg) ?_
    refine zk 6 rfl (zB rfl aE (by simp;rw[←Mv];exact hg) ?_)
    refine zk 8 rfl (WP.ret (hr _ _ _ _ (.bad n _ ε b0 b af Jp hb hg) hg rfl (by rw[Mv];rfl) ?_))
    exact((s.ae [5,5,2,4,0,1,1,1]).del 8).del 7
end
theorem u6.fit {pg:Int}{now:List Nat}{l:List cq}(J:u6 pg dX now i l)(hn:now.length=512)(h0:0≤pg)(h1:pg<65536): ∀c∈l,c.Ok∧c.b.length≤512:=by
 induction J with
 |done i h=>intro c I;cases I
 |skip i l h he J ih=>exact ih
 |take i e l h2 h3 _ _ J ih =>
  intro c I
  rcases List.mem_cons.1 I with rfl|I
  ·have hl:((now.take e).drop i).length=e-i:=by simp;omega
   refine⟨⟨h0,h1,by simp,by simp only;omega,by simp only[hl];omega,by simp⟩,by simp only[hl];omega⟩
  ·exact ih c I
theorem GP.fit {pg:Int}{now:List Nat}{l:List cq}(hr:GP pg dX now l)(hn:now.length=512)(I:0≤pg)(J:pg<65536): ∀c∈l,c.Ok∧c.b.length≤512:=by
 obtain⟨m,h2,rfl⟩:=hr
 split
 ·intro c hc
  rw[List.mem_singleton.1 hc]
  exact⟨⟨I,J,by simp,by simp,by simp,by simp⟩,by simp⟩
 ·exact h2.fit hn I J
theorem ChR.fit {l:List Int}{cs:List cq}(hr:ChR now l ε e cs af)(J:∀x∈now,x.2.length=512)(hl:∀n∈l,0≤n∧n<65536): ∀c∈cs,c.Ok∧c.b.length≤512:=by
 induction hr with
 |nil ε=>intro c hc;cases hc
 |err n l ε e b af hr he=>intro c hc;cases hc
 |part n l ε dX b af c e cs lz hr hb hd hc je ht ih =>
  intro x I
  have hn:=hl n bZ
  rcases List.mem_append.1 I with I|I
  ·exact hc.fit (J _ (fJ hb)) hn.1 hn.2 x I
  ·exact ih (fun m hm=>hl m (b8 _ hm)) x I
 |whole n l ε dX b af e cs lz hr hb hd ht ih =>
  intro x I
  have hn:=hl n bZ
  have hb:=J _ (fJ hb)
  rcases List.mem_cons.1 I with rfl|I
  ·exact⟨⟨hn.1,hn.2,by simp,by simp,by simp only at hb ⊢;omega,fun _=>⟨rfl,hb⟩⟩,by simp only at hb ⊢;omega⟩
  ·exact ih (fun m hm=>hl m (b8 _ hm)) x I
theorem vA : ∀(f n:Nat),(digits f n).length≤f+1:=by
 intro f
 induction f with
 |zero=>intro n;simp[digits]
 |succ f I =>
  intro n
  unfold digits
  split
  ·simp
  ·have:=I (n/128)
   simp only[bF]
   omega
theorem Z5 {c:cq}(I:c.b.length≤512): (kC c).length≤543:=by
 have J:=vA 9 c.aM.toNat
 have h2:=vA 9 c.pos.toNat
 have h3:=vA 9 c.b.length
 simp only[kC,bV,bF,cG]
 omega
theorem XE : ∀ {l:List cq},(∀c∈l,c.b.length≤512)→(l.flatMap kC).length≤543*l.length:=by
 intro l
 induction l with
 |nil=>intro _;simp
 |cons c l I =>
  intro h
  have h1:=Z5 (h c bZ)
  have h2:=I fun x J=>h x (b8 _ J)
  simp only[wu,bV,bF]
  omega
theorem XF {l:List cq}(hl:l.length≤33554432)(h:∀c∈l,c.Ok∧c.b.length≤512)(J:tx<18446744073709551616)(VQ:pv<18446744073709551616)(rE:nx<18446744073709551616)(hd:data.length≤35184372088832): D1 tx pv nx data l:=by
 have h2:=XE fun c I=>(h c I).2
 refine⟨⟨by omega,fun c I=>by have:=(h c I).2;omega,fun c I => ?_⟩,J,VQ,rE,by omega⟩
 have:=(h c I).1
 simp only[cq.Ok] at this
 omega
theorem yq {l:List cq}{kd:Int}(I:1≤kd∧kd≤9)(h:∀c∈l,c.Ok∧c.b.length≤512): ej kd l=true:=by
 simp only[ej,bQ,gE,ud]
 exact⟨I,fun c J=>(h c J).1⟩
inductive DnR (ε:aX)(now:List (Int×List Nat))(kd:Int)(tx pv nx:Nat)(data:List Nat)(pE:Nat): Nat→Int→Bool→aX→Prop where
 |arg (h:¬(1≤kd∧kd≤7)∨0<pE):DnR ε now kd tx pv nx data pE 0 1 false ε
 |dead (h1:1≤kd) (h2:kd≤7) (h3:pE=0) (h:ε.2.2.dead=true):DnR ε now kd tx pv nx data pE 0 9 false ε
 |kj (e:Int) (c:List cq) (af:aX) (h1:1≤kd) (h2:kd≤7) (h3:pE=0) (h:ε.2.2.dead=false) (hc:ChR now (aF now) ε e c af) (he:e≠0):DnR ε now kd tx pv nx data pE 0 e false af
 |app (c:List cq) (af:aX) (h1:1≤kd) (h2:kd≤7) (h3:pE=0) (h:ε.2.2.dead=false) (hc:ChR now (aF now) ε 0 c af) (he:(aG af.2 kd tx pv nx data c).1.2≠0):DnR ε now kd tx pv nx data pE 0 (aG af.2 kd tx pv nx data c).1.2 false (af.1,(aG af.2 kd tx pv nx data c).2)
 |put (c:List cq) (af:aX) (e:Int) (lz:aX) (h1:1≤kd) (h2:kd≤7) (h3:pE=0) (h:ε.2.2.dead=false) (hc:ChR now (aF now) ε 0 c af) (ha:(aG af.2 kd tx pv nx data c).1.2=0) (hp:PtR now (aG af.2 kd tx pv nx data c).1.1 (aF now) (af.1,(aG af.2 kd tx pv nx data c).2) e lz) :
   DnR ε now kd tx pv nx data pE (if e=0 then(aG af.2 kd tx pv nx data c).1.1 else 0) e true lz
structure vB (ε af:aX): Prop where
 base:af.2.1.base=ε.2.1.base
 b:af.2.1.b=ε.2.1.b
 cE:af.2.1.cE=ε.2.1.cE
 check:af.2.1.check=ε.2.1.check
 log:af.2.2.log=ε.2.2.log
 room:af.2.2.room=ε.2.2.room
 aq:af.2.2.aq=ε.2.2.aq
theorem vB.refl (ε:aX): vB ε ε:=⟨rfl,rfl,rfl,rfl,rfl,rfl,rfl⟩
theorem vB.trans {a b c:aX}(x:vB a b)(y:vB b c): vB a c :=
 ⟨y.base.trans x.base,y.b.trans x.b,y.cE.trans x.cE,y.check.trans x.check,y.log.trans x.log,y.room.trans x.room,y.aq.trans x.aq⟩
theorem oL : δ.cg.2.log=δ.log∧δ.cg.2.room=δ.room∧δ.cg.2.aq=δ.aq:=by
 unfold Dk.cg
 split
 ·simp
 ·split<;>exact⟨rfl,rfl,rfl⟩
theorem yt : (δ.bz n b).2.log=δ.log∧(δ.bz n b).2.room=δ.room∧(δ.bz n b).2.aq=δ.aq:=by
 unfold Dk.bz
 split
 ·simp
 ·split
  ·simp
  ·split<;>exact⟨rfl,rfl,rfl⟩
theorem Jq {x:LD}{n:Nat}: vB (π,x) (π,(aJ x n).2):=by
 unfold aJ
 split
 ·exact vB.refl _
 ·split
  ·exact⟨rfl,rfl,rfl,rfl,oL.1,oL.2.1,oL.2.2⟩
  ·exact⟨rfl,rfl,rfl,rfl,oL.1,oL.2.1,oL.2.2⟩
theorem vB.to (h:vB ε af): vB ε (π,af.2):=⟨h.base,h.b,h.cE,h.check,h.log,h.room,h.aq⟩
structure jZ (R:LD→Prop): Prop where
 force:∀(x:LD) (n:Nat),R x→R (aJ x n).2
 write:∀(x:LD) (n:Int) (b:List Nat),R x→R (x.1,(x.2.bz n b).2)
section
variable {R:LD→Prop} {cu:Bool} {l:List Int} {cs:List cq}
theorem jZ.out (h:jZ R)(I:R ε.2): R (outF ε i).2.2:=by
 unfold outF
 split
 ·exact I
 ·split
  ·exact I
  ·split
   ·exact I
   ·split
    ·exact h.force _ _ I
    ·split
     ·exact h.write _ _ _ (h.force _ _ I)
     ·exact h.write _ _ _ (h.force _ _ I)
theorem jZ.jj (h:jZ R)(I:fE ε n e b af)(J:R ε.2): R af.2:=by
 cases I<;>grind[out]
theorem jZ.rd (h:jZ R)(I:my ε n e b af)(J:R ε.2): R af.2:=by
 cases I<;>grind[jj]
theorem jZ.qF (h:jZ R)(J:GRd ε now cu n e b af)(I:R ε.2): R af.2:=by
 cases J with
 |arg hn=>exact I
 |cu _ _ _=>exact I
 |own b h1 h2 _ hl=>exact I
 |read e b af h1 h2 _ hl J=>exact h.rd J I
theorem jZ.y5 (h:jZ R)(I:om ε now cu n b e bL af)(J:R ε.2): R af.2:=by
 cases I with
 |may e c af I he=>exact h.qF I J
 |bad c af I hg=>exact h.qF I J
 |done c af I hg=>exact h.qF I J
theorem jZ.ch (h:jZ R)(I:ChR now l ε e cs af): R ε.2→R af.2:=by
 induction I with
 |nil ε=>simp
 |err n l ε e b af I he=>exact h.rd I
 |part n l ε dX b af c e cs J I hb hd hc je ht ih=>exact fun hx=>ih (h.rd I hx)
 |whole n l ε dX b af e cs J I hb hd ht ih=>exact fun hx=>ih (h.rd I hx)
theorem jZ.pt (h:jZ R)(I:PtR now aO l ε e af): R ε.2→R af.2:=by
 induction I<;>grind[jj]
theorem QX (ε:aX): jZ fun y=>vB ε (ε.1,y) :=
 ⟨fun _ _ h=>h.trans Jq,fun _ _ _ h=>h.trans ⟨rfl,rfl,rfl,rfl,yt.1,yt.2.1,yt.2.2⟩⟩
theorem ChR.same (I:ChR now l ε e cs af): vB ε af:=((QX ε).ch I (vB.refl ε)).to
end
theorem T4 {m:Nat}: ∀ {l:List Nat},l.Pairwise (· < ·)→(∀s∈l,s<m)→l.length≤m:=by
 intro l I J
 have key:∀(l:List Nat) (k:Nat),l.Pairwise (· < ·)→(∀s∈l,k≤s∧s<m)→k+l.length≤m∨l=[]:=by
  intro l
  induction l with
  |nil=>simp
  |cons x l ih =>
   intro k I J
   simp only[ua] at I
   have hx:=J x bZ
   rcases ih (x+1) I.2 (fun s hs=>⟨I.1 s hs,(J s (b8 _ hs)).2⟩) with h|rfl<;>grind
 rcases key l 0 I (fun s hs=>⟨fe _,J s hs⟩) with h|rfl
 ·omega
 ·simp
theorem fh (x:LD)(kd:Int)(tx pv nx:Nat)(data:List Nat)(c:List cq):
  (∃e:Int,e≠0∧((e=1∧ej kd c=false)∨(e=2∧1048576<(dD kd tx pv nx data c).length)∨(e=9∧x.2.dead=true)∨(e=7∧x.2.room<x.2.log.length+(cC x.1 kd tx pv nx data c).length))∧aG x kd tx pv nx data c=((0,e),x)) ∨
  (x.2.dead=false∧x.2.aT=0∧aG x kd tx pv nx data c=((0,9),(x.1,{ x.2.die with tail:=cC x.1 kd tx pv nx data c }))) ∨
  (ej kd c=true∧(dD kd tx pv nx data c).length≤1048576∧x.2.dead=false∧x.2.log.length+(cC x.1 kd tx pv nx data c).length≤x.2.room∧x.2.aT≠0 ∧
   aG x kd tx pv nx data c=((x.1.base+x.1.b.length,0),(x.1.app (cC x.1 kd tx pv nx data c),{ x.2.cV with log:=x.2.log++cC x.1 kd tx pv nx data c }))):=by
 by_cases I:ej kd c=false
 ·grind[aG]
 ·by_cases J:1048576<(dD kd tx pv nx data c).length
  ·grind[aG]
  ·by_cases hd:x.2.dead=true
   ·grind[Dk.jr,aG]
   grind[Dk.jr,aG]
theorem vW {x:LD}{kd:Int}{c:List cq}(J:x.1.Ok)(I:x.2.Ok)(hs:x.1.b=x.2.log)(hz:x.1.base+x.1.b.length+1048584≤1099511627776):
  (aG x kd tx pv nx data c).2.1.Ok∧(aG x kd tx pv nx data c).2.2.Ok∧(aG x kd tx pv nx data c).2.1.b=(aG x kd tx pv nx data c).2.2.log∧(aG x kd tx pv nx data c).2.1.base=x.1.base∧(aG x kd tx pv nx data c).2.1.b.length≤x.1.b.length+1048584 ∧
  (aG x kd tx pv nx data c).2.2.waiting=x.2.waiting∧(aG x kd tx pv nx data c).1.1<1099511627776:=by
 have hlen:(cC x.1 kd tx pv nx data c).length=8+(dD kd tx pv nx data c).length:=pV _ _
 rcases fh x kd tx pv nx data c with⟨e,_,_,h⟩|⟨hd,hf,h⟩|⟨hg,hb,hd,eX,hf,h⟩
 ·grind
 ·rw[h];exact⟨J,⟨I.aT,I.len,I.room,I.now,I.aq,I.bj,I.many⟩,hs,rfl,Bb _ _,rfl,by simp⟩
 ·rw[h]
  generalize cC x.1 kd tx pv nx data c=rc at hlen eX
  have adM:=I.room
  have kz:x.1.b.length=x.2.log.length:=by rw[hs]
  have hl:(x.1.b++rc).length=x.1.b.length+rc.length:=bV
  have iW:(x.2.log++rc).length=x.2.log.length+rc.length:=bV
  refine⟨⟨?_,?_,?_,?_,?_,?_,J.check⟩,⟨I.cV.aT,?_,I.room,I.now,I.aq,?_,I.many⟩,?_,rfl,?_,rfl,?_⟩
  ·show x.1.base+(x.1.b++rc).length≤_;omega
  ·have h1:=T4 J.FA J.low
   show(x.1.cE++[x.1.b.length]).length≤_
   grind
  ·intro s hm
   show s<(x.1.b++rc).length
   rcases List.mem_append.1 (show s∈x.1.cE++[x.1.b.length] from hm) with hm|hm
   ·have:=J.low s hm;omega
   ·grind
  ·show(x.1.cE++[x.1.b.length]).Pairwise (·< ·)
   rw[List.pairwise_append]
   refine⟨J.FA,List.pairwise_singleton _ _,fun a ha b hb => ?_⟩
   rw[List.mem_singleton.1 hb]
   exact J.low a ha
  ·have:=J.forced
   show x.1.forced≤(x.1.b++rc).length;omega
  ·show(x.1.b++rc).length≤_;omega
  ·grind
  ·have:=I.bj
   show x.2.bj≤(x.2.log++rc).length;omega
  ·show x.1.b++rc=x.2.log++rc;rw[hs]
  ·show(x.1.b++rc).length≤_;omega
  ·grind
theorem wf_i64 (I:0≤n)(J:n<4294967296): (Lit.int .i64 n).wf=true:=by
 simp only[Lit.wf,bQ,gE]
 have e1:IntKind.min .i64 = -9223372036854775808:=rfl
 have e2:IntKind.max .i64=9223372036854775807:=rfl
 omega
theorem BG {kd:Int}{ch:V}(hd:dt.beq dt=true)(I:ch.beq ch=true): (V.agg (iw kd tx pv nx dt ch)).beq (V.agg (iw kd tx pv nx dt ch))=true:=by
 simp only[iw,V.beq,V.beqL,hd,I,dx,mS,decide_true,jz,aj]
section
variable {told:cR} {p:Nat} {op v:V} {cu:Bool}
theorem XG (hT:W told){kd:Int}{pE:Nat}{ch:V}{ccs:List V}(s:Sat h (gC g a now false::ew a p q r (.ptr g 0) HR aC::dO r p q ε.1::b7 q p ε.2.1::aS p ε.2.2::X::.arr 4 ch ccs::S))(hX:cL X (cQ dt data))(Qg:ccs.length=pE*4)(eY:fG ε)(hw:bM ε+65536≤268435456)
 (tw:∀e∈now,e.2.length=512)(hm:now.length≤65536)(hk:∀n∈now.map (·.1),0≤n∧n<65536)(GD:tx<18446744073709551616)(VQ:pv<18446744073709551616)(rE:nx<18446744073709551616)(hd:data.length≤35184372088832)(FK:ε.2.1.b=ε.2.2.log)(hz:ε.2.1.base+ε.2.1.b.length+1048584≤1099511627776):
  Call ⟨Tryz.prog,told⟩ 26 [.ptr g 0,.agg (iw kd tx pv nx dt ch)] h fun v h'=>∃aO e cl af,DnR ε now kd tx pv nx data pE aO e cl af∧v=.bf [.int .u64 (aO:Int),.int .i64 e] ∧
   Sat h' (gC g a now cl::ew a p q r (cond cl .b_ (.ptr g 0)) HR aC::dO r p q af.1::b7 q p af.2.1::aS p af.2.2::X::S):=by
 have nJ:∀n∈now.map (·.1),(Lit.int .i64 n).wf=true:=fun n hn=>by
  have:=hk n hn
  exact wf_i64 (by omega) (by omega)
 have jf:=s.ju (j:=6) rfl
 have jV:=s.aD (k:=5) rfl hX
 have fX:=m8 (kd:=kd) (tx:=tx) (pv:=pv) (nx:=nx) jV.cells.2 jf.2.1
 have hlen:=s.dZ (n:=pE) (j:=6) rfl Qg (by decide) ji
 have s0:=s
 obtain⟨nv,s⟩:=fb.1 s
 refine Call.of_wp (hT.free _ rfl) Tryz.func26 rfl rfl (zg rfl (ax.cm s rfl rfl rfl (fY rfl fX) ?_))
 intro p1 h s
 dsimp only[V.cells] at s
 have s:Sat h (pt p1 (.cells 6 (iw kd tx pv nx dt ch) false)::_):=s
 have hlen:=s.dZ (n:=pE) (j:=8) rfl Qg (by decide) ji
 refine zk 7 rfl (zY s 1 qo Aj rfl (zk 3 rfl (WP.block (zK 4 rfl (zf rfl (Bw _ _) (zh rfl (aZ rfl (s.ld (k:=1) rfl kZ rfl)) (rfl) (zk 5 rfl (zY s 0 uQ dN rfl ?_))))))))
 have fin:∀e:Int,Sat h (gC g a now false::ew a p q r (.ptr g 0) HR aC::dO r p q ε.1::b7 q p ε.2.1::aS p ε.2.2::X::S):=fun e=>((fb.2 ⟨nv,s.ae [1,1]⟩).del 7).del 1
 refine zd rfl (aA rfl rfl bh) ?_ ?_
 ·intro hq
  have hq:kd<1:=by simpa using hq
  exact zk 19 rfl (WP.ret ⟨aa,_,rfl,0,1,false,ε,.arg (.inl (by omega)),rfl,fin 0⟩)
 ·intro hq
  have hq:1≤kd:=by simp at hq;omega
  refine zm rfl (zY s 0 uQ dN rfl ?_)
  refine zd rfl (aA rfl rfl gA) ?_ ?_
  ·intro J
   have J:7<kd:=by simpa using J
   exact zk 15 rfl (WP.ret ⟨aa,_,rfl,0,1,false,ε,.arg (.inl (by omega)),rfl,fin 0⟩)
  ·intro J
   have J:kd≤7:=by simp at J;omega
   refine zk 2 rfl (zY s 0 m5 uP rfl (zo rfl (aN rfl rfl rfl hlen) ?_))
   refine zd rfl (aA rfl rfl gA) ?_ ?_
   ·intro I
    have I:0<pE:=by simp at I;omega
    exact zk 9 rfl (WP.ret ⟨aa,_,rfl,0,1,false,ε,.arg (.inr I),rfl,fin 0⟩)
   ·intro I
    have I:pE=0:=by simp at I;omega
    obtain⟨dv,s⟩:=cy.1 (s.ae [3])
    dsimp only[bringA,getA,aI] at s
    refine zk 8 rfl (zY s 0 qp pP rfl (zc rfl (lH hT (s.ae [7])) ?_))
    rintro v h ⟨rfl,rfl⟩
    refine zk 2 rfl ?_
    cases nW:ε.2.2.dead with
    |true =>
     refine zK 6 rfl (WP.ret ⟨aa,_,rfl,?_⟩)
     have s9:=fb.2 ⟨nv,(cy.2 ⟨dv,s⟩).ae [2,2]⟩
     dsimp only[bringA,getA,aI] at s9
     exact⟨0,9,false,ε,.dead hq J I nW,rfl,(s9.del 7).del 2⟩
    |false =>
     refine zj rfl (WP.skip (zg rfl (za rfl (zv (zw (zg rfl (zm rfl ?_)))))))
     have s9:=fb.2 ⟨nv,(cy.2 ⟨dv,s⟩).ae [2,2]⟩
     dsimp only[bringA,getA,aI] at s9
     have s:=s9.ae [0,0,1,1,1]
     dsimp only[bringA,getA,aI] at s
     refine zc rfl (Ol hT s eY (by omega) tw hm nJ) ?_
     rintro v h ⟨e,c,af,hc,(⟨he,rfl,s⟩|⟨rfl,je,av,cs,rfl,s⟩)⟩
     ·refine ax.op rfl rfl rfl (bK rfl) ?_
      refine zk 2 rfl (zf rfl (m5 _ _) ?_)
      refine zS rfl (by exact s.eH (k:=5) rfl NL rfl (by decide) rfl rfl) (fun h s => ?_)
      dsimp only[iw,Nat.reduceAdd,List.set,setA] at s
      refine zk 5 rfl (zB rfl aE (by simp;exact he) ?_)
      exact zk 8 rfl (WP.ret ⟨aa,_,rfl,0,e,false,af,.kj e c af hq J I nW hc he,rfl,(s.del 7).del 5⟩)
     ·have D8:=s.ju (j:=0) rfl
      have Jr:=hc.jk eY
      have hcp:=hc.bM
      have oP:=hc.same
      have Mx:=vW (x:=af.2) (kd:=kd) (tx:=tx) (pv:=pv) (nx:=nx) (data:=data) (c:=c) Jr.ok.lg Jr.ok.dk (by rw[oP.b,oP.log];exact FK) (by rw[oP.base,oP.b];exact hz)
      have eX:=hc.fit tw fun n hn=>hk n ((eL _).mem_iff.1 hn)
      refine zk 3 rfl (zf rfl (m5 _ _) (zS rfl (s.eH (k:=7) rfl NL rfl (show 0+5<6 by decide) D8.1 D8.2.1) ?_))
      intro h s
      dsimp only[iw,Nat.reduceAdd,List.set,setA] at s
      refine zk 5 rfl (zC rfl aE (rfl) ?_)
      obtain⟨dv,s⟩:=cy.1 (s.ae [3])
      dsimp only[bringA,getA,aI] at s
      have s:=s.ae [6,6,7,2,2,0,3]
      dsimp only[bringA,getA,aI] at s
      refine zv (zj rfl (WP.skip (zw ?_)))
      have s0:=s
      have acL:=dB jV
      have Js:=BG (kd:=kd) (tx:=tx) (pv:=pv) (nx:=nx) acL D8.2.2
      refine WP.drawn [ah,ah,ah,ah,ah,ah,ah,ah,ah,ah,ah] rfl (by kernel_rfl) (by kernel_rfl) ?_
      refine zM rfl (zN rfl (zF rfl (uu _ _) (zL rfl (s.ld (k:=5) rfl Cy rfl) (zL rfl (s.dn (k:=6) rfl oc ik) (ay.any rfl rfl rfl rfl (OpR.call rfl rfl rfl rfl (Tx (kd:=kd) (tx:=tx) (pv:=pv) (nx:=nx) hT s hX (XF je eX GD VQ rE hd) Jr.ok.lg Jr.ok.dk)) ?_)))))
      rintro v h ⟨rfl,s⟩
      refine zM rfl (zO rfl (cS rfl rfl) (zO rfl (cS rfl rfl) (zA rfl (zA rfl ?_))))
      refine ay.nil ⟨⟨aa,aa,aa,aa,aa,aa,aa,aa,aa,aa,aa,aa⟩,?_⟩
      refine zK 4 rfl ?_
      have s9:=cy.2 ⟨dv,s.ae [5,6]⟩
      have s:=((((s9.ae [7,0,6,0,0,0]).del 9).del 8).del 7).del 6
      by_cases he:(aG af.2 kd tx pv nx data c).1.2=0
      ·skip
       refine zC rfl aE (by simp;exact he) ?_
       refine zk 6 rfl (zc rfl (GO hT s) ?_)
       rintro v h ⟨rfl,s⟩
       obtain⟨nv,s⟩:=fb.1 s
       obtain⟨xk,rfl⟩:=DQ s (j:=1) rfl
       refine zk 6 rfl (zY s 0 rP jT rfl (zc rfl (yp hT s) ?_))
       rintro v h ⟨kb,rfl,s⟩
       refine zc rfl (sN hT (s.ae [0,1]) (by decide) (by omega) nJ) ?_
       intro kv h s
       have hl:(aF now).length=now.length:=by rw[aF,(eL _).length_eq,jl]
       refine zo rfl (aN rfl rfl rfl (s.dZ (n:=(aF now).length) (j:=0) rfl (by simp[fL]) (by decide) cf)) ?_
       refine zk 2 rfl (WP.block ?_)
       obtain⟨aem,es,clock,T5,hb,iK,s⟩:=eM.1 (s.ae [2])
       injection T5 with T5
       subst T5
       obtain⟨dv,s⟩:=cy.1 (s.ae [5])
       have s:=s.ae [6,2,2,0,3,3,3,1]
       refine QW (op:=.b_) (dv:=dv) hT (ks:=aF now) (now:=now) (aO:=(aG af.2 kd tx pv nx data c).1.1) (by omega) (fun n hn => ?_) tw (aF now).length 0 (af.1,(aG af.2 kd tx pv nx data c).2) _ _ _ (by omega) ?_ ?_ s ⟨rfl,rfl,rfl,rfl,rfl,rfl,aa⟩ (fun e lz E' h' hp Dj l4 l5 s' => ?_) (fun lz E' h' hp jx s' => ?_)
       ·have:n∈now.map (·.1):=(eL _).mem_iff.1 hn
        cases hq:lookL n now with
        |some _=>rfl
        |none=>exact absurd this (gx.1 hq)
       ·exact⟨⟨Jr.ok.pl,Mx.1,Mx.2.1⟩,Jr.pins,Jr.full⟩
       ·have e1:bM (af.1,(aG af.2 kd tx pv nx data c).2)=bM af:=by simp only[bM,Mx.2.2.2.2.2.1]
        rw[e1,hl];omega
       ·rw[gV] at hp
        have e4:look E' 4=some (.int .u64 ((0:Nat):Int)):=l4
        refine⟨aa,_,pX e4 l5,0,e,true,lz,?_,rfl,?_⟩
        ·have:=DnR.put (data:=data) c af e lz hq J I nW hc he hp
         rwa [ak Dj] at this
        ·have s3:=cy.2 ⟨dv,s'.ae [3,6]⟩
         have s4:=eM.2 ⟨xk,es,clock,rfl,hb,iK,s3.ae [2,2]⟩
         exact fb.2 ⟨.map xk,(s4.ae [2,0,0,0,0,0,1]).del 7⟩
       ·rw[gV] at hp
        have s:=s'
        refine WP.has jx (zK 6 rfl (WP.ret ⟨aa,_,rfl,?_⟩))
        refine⟨_,0,true,lz,?_,rfl,?_⟩
        ·have:=DnR.put (data:=data) c af 0 lz hq J I nW hc he hp
         exact this
        ·have s3:=cy.2 ⟨dv,s.ae [3,6]⟩
         have s4:=eM.2 ⟨xk,es,clock,rfl,hb,iK,s3.ae [2,2]⟩
         dsimp only[bringA,getA,aI] at s4
         exact fb.2 ⟨.map xk,(s4.ae [2,0,0,0,0,0,1]).del 7⟩
      ·skip
       refine zB rfl aE (by simp;exact he) ?_
       exact zk 8 rfl (WP.ret ⟨aa,_,rfl,0,_,false,_,.app c af hq J I nW hc he,rfl,s⟩)
end
def Lg.fresh : Lg:={ base:=1,b:=[],cE:=[],forced:=0,check:=0 }
theorem yu {b c t:Nat}{p v w:V}(I:look E a=some p)(hd:loadV P h t p=some v)(J:look E b=some w)(h3:look E c=some x): resLE P E h [.cell a t,.tmp b,.tmp c]=some (.bf [v,w,x]):=by
 simp only[resLE,mapO,resE,I,hd,J,h3]
section
variable {told:cR} {p:Nat} {op v:V} {cu:Bool}
theorem Lb (hT:W told)(s:Sat h (aS p δ::S))(hd:δ.dead=false)(hm:δ.mark=[])(hl:δ.log=[])(hc:δ.bj=0):
  Call ⟨Tryz.prog,told⟩ 80 [.ptr p 0] h fun v h'=>∃q,v=.bf [.ptr q 0,.int .i64 0]∧Sat h' (b7 q p Lg.fresh::aS p δ::S):=by
 refine Call.of_wp (hT.free _ rfl) Tryz.func80 rfl rfl (zK 8 rfl (zc rfl (DW hT s (by rw[hm];decide)) ?_))
 rintro v h (⟨I,_,_⟩|⟨_,b0,rfl,s⟩)
 ·rw[hd] at I;cases I
 rw[hm] at s
 refine zk 10 rfl (zC rfl aE (rfl) (zk 6 rfl (zo rfl (cT rfl (by rw[VB];rfl)) ?_)))
 refine ax.cm s rfl rfl rfl (fY rfl rfl) (fun p23 h s => ?_)
 dsimp only[V.cells,List.take,List.length_cons,List.length_nil,Nat.reduceAdd,List.drop,List.cons_append,List.nil_append] at s
 refine zk 7 rfl ?_
 have s:=s.ae [2,0,0]
 dsimp only[bringA,getA,aI] at s
 refine zc rfl (Xi hT s (by rw[hl];decide)) ?_
 rintro v h (⟨I,_,_⟩|⟨_,b1,rfl,s⟩)
 ·rw[hd] at I;cases I
 rw[hl] at s
 have hv:=(s.buf (k:=0) rfl).view.cells
 refine zk 4 rfl (zf rfl (ff _ _) (zS rfl (s.eH (k:=2) rfl gU rfl (by decide) hv.1 hv.2) ?_))
 intro h s
 dsimp only[Nat.reduceAdd,List.set,setA] at s
 refine za rfl (zv (zg rfl (zm rfl (zh rfl (aA rfl rfl aE) (rfl) (zv (zj rfl (WP.skip (zw (zg rfl (zm rfl (zo rfl (aN rfl rfl rfl (by exact aW aK (s.aD (k:=3) rfl (bk _ _)))) ?_)))))))))))
 refine zv (WP.block (zg rfl (zt rfl (aA rfl rfl eu) (rfl) (za rfl (zv (zi rfl (WP.skip (zg rfl (za rfl (zv (zw (WP.block (WP.loop (zw (zg rfl (zk 3 rfl (zf rfl (ff _ _) (zl rfl (by exact s.ld (k:=2) rfl bE rfl) ?_))))))))))))))))))
 refine zo rfl (aN rfl rfl rfl (aW aK (s.aD (k:=0) rfl (bk _ _)))) (zC rfl bh (rfl) (zk 2 rfl (WP.exit (zK 6 rfl (zY s 2 ff bE rfl (zo rfl (aN rfl rfl rfl (aW aK (s.aD (k:=0) rfl (bk _ _)))) (zC rfl bh (rfl) (zk 5 rfl ?_))))))))
 have s0:=s
 have J:=dB (s.buf (k:=0) rfl).view
 refine WP.drawn [none,none,some (0,2),some (0,2),some (0,2),some (0,2),some (0,2),none] rfl (by kernel_rfl) (by kernel_rfl) ?_
 refine zM rfl (ay.any rfl rfl rfl rfl (OpR.call rfl rfl rfl rfl (B8 hT (s.ae [1]))) ?_)
 rintro v h' ⟨rfl,rfl⟩
 refine zM rfl (zN rfl (zF rfl (ff _ _) (zL rfl (s.ld (k:=2) rfl bE rfl) (zO rfl (aN rfl rfl rfl (aW aK (s.aD (k:=0) rfl (bk _ _)))) (ay.oN rfl rfl rfl rfl (aA rfl rfl bh) (by rw[show δ.yh=0 from hc];rfl) ?_)))))
 refine ay.nil ⟨⟨aa,aa,fun _ _=>.inr ⟨rfl,⟨_,bK rfl⟩,bH _ rfl⟩,fun _ _=>.inr ⟨rfl,⟨_,pJ rfl⟩,bH _ rfl⟩,fun _ _=>.inr ⟨rfl,⟨_,lE rfl (ff _ _)⟩,bH _ rfl⟩,eE (.inr ⟨rfl,⟨_,aZ rfl (s0.ld (k:=2) rfl bE rfl)⟩,J⟩) (.inr ⟨rfl,⟨_,aZ rfl (s.ld (k:=2) rfl bE rfl)⟩,J⟩),eE (.inr ⟨rfl,⟨_,aN rfl rfl rfl (aW aK (s0.aD (k:=0) rfl (bk _ _)))⟩,bH _ rfl⟩) (.inr ⟨rfl,⟨_,aN rfl rfl rfl (aW aK (s.aD (k:=0) rfl (bk _ _)))⟩,bH _ rfl⟩),aa,aa⟩,?_⟩
 refine zK 7 rfl (zY s 2 ff bE rfl (zo rfl (aN rfl rfl rfl (aW aK (s.aD (k:=0) rfl (bk _ _)))) (zn rfl (zf rfl (w8 _ _) ?_))))
 refine zS rfl (by exact s.eH (k:=2) rfl jF rfl (by decide) rfl rfl) (fun h s => ?_)
 refine zk 7 rfl (WP.ret ⟨aa,_,rfl,?_⟩)
 have s1:=(s.del 3).m6 (k:=1)
 refine⟨_,rfl,gy.2 ⟨b1,.a_,?_⟩⟩
 exact s1.ae [3,1,0]
theorem QY (J:W told)(s:Sat h (b7 q p μ::S))(I:μ.Ok): Call ⟨Tryz.prog,told⟩ 84 [.ptr q 0,.int .u64 ((μ.base:Int)+(μ.b.length:Int))] h fun v h'=>v=.bf [.agg (iw 0 0 0 0 .a_ .a_),.int .u64 0,.int .i64 17]∧Sat h' (b7 q p μ::S):=by
 refine Call.of_wp (J.free _ rfl) Ji rfl rfl (zg rfl ?_)
 refine ax.cm s rfl rfl rfl (b6 rO) (fun p4 h s => ?_)
 refine zk 4 rfl (WP.block (zK 4 rfl ?_))
 have s:=s.ae [1]
 refine zc rfl (xg J s I.size) ?_
 rintro v h' ⟨rfl,rfl⟩
 refine zB rfl eu (by simp) ?_
 refine zk 5 rfl (zo rfl (cT rfl (by rw[Fk];rfl)) ?_)
 refine zS rfl (s.fS (j:=1) rfl ik rfl rfl) (fun h s => ?_)
 refine zk 3 rfl ?_
 refine WP.ret ⟨aa,_,yu rfl (s.dn (k:=1) rfl oc ik) rfl rfl,?_⟩
 exact⟨rfl,s.del 1⟩
theorem T6 (J:W told){n:Nat}(s:Sat h (b7 q p μ::S))(I:μ.Ok)(hn:n<18446744073709551616)(mH:n≠μ.base+μ.b.length)(H_:μ.hasB n=false): Call ⟨Tryz.prog,told⟩ 84 [.ptr q 0,.int .u64 (n:Int)] h fun v h'=>v=.bf [.agg (iw 0 0 0 0 .a_ .a_),.int .u64 0,.int .i64 1]∧Sat h' (b7 q p μ::S):=by
 refine Call.of_wp (J.free _ rfl) Ji rfl rfl (zg rfl ?_)
 refine ax.cm s rfl rfl rfl (b6 rO) (fun p4 h s => ?_)
 refine zk 4 rfl (WP.block (zK 4 rfl ?_))
 have s:=s.ae [1]
 refine zc rfl (xg J s I.size) ?_
 rintro v h' ⟨rfl,rfl⟩
 refine zC rfl eu (by simp;omega) ?_
 refine zk 7 rfl (zc rfl (Mh (n:=n) J s I hn) ?_)
 rintro v h' ⟨rfl,rfl⟩
 refine zo rfl (er rfl rfl) (zk 2 rfl (WP.NJ rfl (by rw[H_];rfl) ?_))
 refine zg rfl (zo rfl (cT rfl (by rw[Fk];rfl)) ?_)
 refine zS rfl (s.fS (j:=1) rfl ik rfl rfl) (fun h s => ?_)
 refine zk 3 rfl ?_
 refine WP.ret ⟨aa,_,yu rfl (s.dn (k:=1) rfl oc ik) rfl rfl,?_⟩
 exact⟨rfl,s.del 1⟩
theorem Ea (hT:W told){n:Nat}(s:Sat h (b7 q p μ::S))(J:μ.Ok)(hn:n<18446744073709551616)(I:n=μ.base+μ.b.length∨μ.hasB n=false): Call ⟨Tryz.prog,told⟩ 84 [.ptr q 0,.int .u64 (n:Int)] h fun v h'=>∃e:Int,e≠0∧v=.bf [.agg (iw 0 0 0 0 .a_ .a_),.int .u64 0,.int .i64 e]∧Sat h' (b7 q p μ::S):=by
 by_cases he:n=μ.base+μ.b.length
 ·have:=QY hT s J
  rw[show((μ.base:Int)+(μ.b.length:Int))=((n:Nat):Int) by omega] at this
  exact this.mono fun v h' ⟨h1,h2⟩=>⟨17,by decide,h1,h2⟩
 ·rcases I with I|I
  ·exact absurd I he
  ·exact(T6 hT s J hn he I).mono fun v h' ⟨h1,h2⟩=>⟨1,by decide,h1,h2⟩
end
section
variable {told:cR} {p:Nat} {op v:V} {cu:Bool}
theorem Om (I:W told){n:Nat}(s:Sat h (ew a p q r op data aC::b7 q p μ::S))(J:μ.Ok)(hn:n<18446744073709551616)(H_:n=μ.base+μ.b.length∨μ.hasB n=false):
  Call ⟨Tryz.prog,told⟩ 87 [.ptr a 0,.int .u64 (n:Int)] h fun v h'=>v=.int .i64 0∧Sat h' (ew a p q r op data aC::b7 q p μ::S):=by
 obtain⟨dv,s⟩:=cy.1 s
 refine Call.of_wp (I.free _ rfl) Tryz.func87 rfl rfl (zK 6 rfl ?_)
 refine ax.Ai s rfl rfl rfl rfl (fun p18 h s => ?_)
 refine ax.Ai s rfl rfl rfl rfl (fun p19 h s => ?_)
 refine zo rfl (cT rfl (by rw[VF];rfl)) ?_
 refine ax.cm s rfl rfl rfl (fY rfl rfl) (fun ZS h s => ?_)
 refine zk 5 rfl (zo rfl (Bu rfl rfl) (zk 8 rfl (WP.block (WP.loop (WP.block (zK 4 rfl (zY s 3 uu Cy rfl (zm rfl ?_))))))))
 have s1:=s.ae [5]
 refine zc rfl (Ea (n:=n) I s1 J hn H_) ?_
 rintro v h ⟨e,he,rfl,s⟩
 refine zk 4 rfl ?_
 refine ax.cm s rfl rfl rfl (b6 rO) (fun p8 h s => ?_)
 refine zS rfl (s.fS (j:=0) rfl ik rfl rfl) (fun h s => ?_)
 refine zk 7 rfl (zB rfl aE (by simp;exact he) ?_)
 have s:=uT (f:=fun v (b:List Nat)=>.bY v b) (s.ae [4])
 refine zk 2 rfl (WP.exit (zK 5 rfl (zY s 3 qv jT rfl (zc rfl (yp I s) ?_))))
 rintro v h ⟨kb,rfl,s⟩
 refine zc rfl (sN I s (by decide) (by decide) (by simp)) ?_
 intro kv h s
 refine zo rfl (aN rfl rfl rfl (s.dZ (n:=0) (j:=0) rfl rfl (by decide) cf)) ?_
 exact zk 2 rfl (WP.block (WP.loop (zg rfl (zC rfl bh (rfl) (zk 3 rfl (WP.exit (zK 5 rfl (zY s 5 qv jT rfl (zo rfl (aN rfl rfl rfl (IP (s.ae [2]) k_)) (zB rfl eu (rfl) (zk 6 rfl (WP.ret ⟨aa,_,rfl,rfl,((((((cy.2 ⟨dv,s.ae [7,7,4]⟩).del 7).del 6).del 5).del 4).del 3).del 2⟩))))))))))))
theorem Lg.Jt : Lg.fresh.Ok:=⟨by decide,by decide,by simp[Lg.fresh],List.Pairwise.nil,by decide,by decide,by decide⟩
theorem Lc (I:W told){n:Nat}(s:Sat h (aS p δ::S))(h1:1≤n)(h2:n≤1024)(hd:δ.dead=false)(hm:δ.mark=[])(J:δ.log=[])(hc:δ.bj=0):
  Call ⟨Tryz.prog,told⟩ 35 [.ptr p 0,.int .i64 (n:Int)] h fun v h'=>∃a q r,v=.bf [.ptr a 0,.int .i64 0]∧Sat h' (ew a p q r .b_ [] 0::dO r p q (Pl.fresh n)::b7 q p Lg.fresh::aS p δ::S):=by
 refine Call.of_wp (I.free _ rfl) Tryz.func35 rfl rfl (zK 9 rfl (zC rfl bh (by simp<;>omega) ?_))
 refine zk 2 rfl (zC rfl gA (by simp<;>omega) ?_)
 refine zk 7 rfl (zc rfl (Lb I s hd hm J hc) ?_)
 rintro v h ⟨q,rfl,s⟩
 refine zk 10 rfl (zC rfl aE (rfl) (zk 8 rfl (zc rfl (Mq (p:=p) (q:=q) (n:=n) I s) ?_)))
 rintro v h (⟨hn,_,_⟩|⟨_,_,r,rfl,s⟩)
 ·omega
 rw[dY] at s
 refine zk 10 rfl (zC rfl aE (rfl) (zk 8 rfl (zo rfl (cT rfl (by rw[Vx];rfl)) ?_)))
 refine ax.cm s rfl rfl rfl (fY rfl rfl) (fun p44 h s => ?_)
 refine zk 5 rfl (zc rfl (GB I (s.ae [2])) ?_)
 rintro v h' ⟨rfl,rfl⟩
 refine zk 6 rfl (zc rfl (B9 I (s.ae [2])) ?_)
 rintro v h' ⟨rfl,rfl⟩
 refine zk 5 rfl (zC rfl aE (rfl) (zk 8 rfl ?_))
 have s1:=cy.2 ⟨.a_,(s.sy).ae [1,0]⟩
 refine zc rfl (Om (n:=1) I (s1.ae [0,1]) Lg.Jt (by decide) (.inl rfl)) ?_
 rintro v h ⟨rfl,s⟩
 exact zk 5 rfl (zC rfl aE (rfl) (zk 9 rfl (WP.ret ⟨aa,_,rfl,_,q,r,rfl,s.ae [0,1,0]⟩)))
end
def eN (ε:aX): Int×aX:=if ε.2.2.dead=true then(9,ε) else if (writeAllF (aF ε.1.aH) ε).1≠0 then writeAllF (aF ε.1.aH) ε else
 ((dM (writeAllF (aF ε.1.aH) ε).2.1 (writeAllF (aF ε.1.aH) ε).2.2.2).1,((dM (writeAllF (aF ε.1.aH) ε).2.1 (writeAllF (aF ε.1.aH) ε).2.2.2).2.1,((writeAllF (aF ε.1.aH) ε).2.2.1,(dM (writeAllF (aF ε.1.aH) ε).2.1 (writeAllF (aF ε.1.aH) ε).2.2.2).2.2)))
section
variable {told:cR} {p:Nat} {op v:V} {cu:Bool}
theorem XH (I:W told)(s:Sat h (ew a p q r op data aC::S)): Call ⟨Tryz.prog,told⟩ 42 [.ptr a 0] h fun v h'=>v=.ptr q 0∧h'=h:=by
 obtain⟨dv,s⟩:=cy.1 s
 exact Call.of_wp (I.free _ rfl) Tryz.func42 rfl rfl (zK 8 rfl (zY s 0 uu Cy rfl (zk 2 rfl (WP.ret ⟨aa,_,rfl,rfl,rfl⟩))))
theorem T7 (I:W told)(s:Sat h (ew a p q r op data aC::S)): Call ⟨Tryz.prog,told⟩ 71 [.ptr a 0] h fun v h'=>v=.ptr p 0∧h'=h:=by
 obtain⟨dv,s⟩:=cy.1 s
 exact Call.of_wp (I.free _ rfl) Tryz.func71 rfl rfl (zK 8 rfl (zY s 0 qp pP rfl (zk 2 rfl (WP.ret ⟨aa,_,rfl,rfl,rfl⟩))))
theorem QZ (J:W told){n:Nat}(s:Sat h (ew a p q r op data aC::b7 q p μ::aS p δ::S))(I:μ.Ok)(hf:δ.aT<4294967296):
  Call ⟨Tryz.prog,told⟩ 34 [.ptr a 0,.int .u64 (n:Int)] h fun v h'=>v=.int .i64 (aJ (μ,δ) n).1∧Sat h' (ew a p q r op data aC::b7 q p (aJ (μ,δ) n).2.1::aS p (aJ (μ,δ) n).2.2::S):=by
 obtain⟨dv,s⟩:=cy.1 s
 refine Call.of_wp (J.free _ rfl) Tryz.func34 rfl rfl (zK 8 rfl (zY s 0 uu Cy rfl (zm rfl (zc rfl (Mk (n:=n) J (s.ae [2,2]) I hf) ?_))))
 rintro v h ⟨rfl,s⟩
 exact zk 2 rfl (WP.ret ⟨aa,_,rfl,rfl,cy.2 ⟨dv,s.ae [2,2]⟩⟩)
theorem T8 (J:W2 told)(s:Sat h (ew a p q r .b_ data aC::dO r p q ε.1::b7 q p ε.2.1::aS p ε.2.2::S))(eY:rX ε)(hw:ε.2.2.waiting.length+ε.1.aH.length≤268435456)(hm:ε.1.aH.length≤1048576)(hk:∀n∈ε.1.aH.map (·.1),(Lit.int .i64 n).wf=true)
 (gT:(writeAllF (aF ε.1.aH) ε).2.2.2.Ok)(I:∀e∈(writeAllF (aF ε.1.aH) ε).2.2.2.now,0≤e.1∧e.1<(writeAllF (aF ε.1.aH) ε).2.2.2.aq.length):
  Call ⟨Tryz.prog,told⟩ 39 [.ptr a 0] h fun v h'=>v=.int .i64 (eN ε).1∧Sat h' (ew a p q r .b_ data aC::dO r p q (eN ε).2.1::b7 q p (eN ε).2.2.1::aS p (eN ε).2.2.2::S):=by
 have s0:=s
 obtain⟨dv,s⟩:=cy.1 s
 refine Call.of_wp (J.w.free _ rfl) Tryz.func39 rfl rfl (zK 5 rfl (WP.block (zK 4 rfl (zY s 0 rQ IF rfl (zC rfl (Oi lu) (rfl) (zk 7 rfl (zY s 0 qp pP rfl (zc rfl (lH J.w (s.ae [4])) ?_))))))))
 rintro v h ⟨rfl,rfl⟩
 refine zk 2 rfl ?_
 cases hd:ε.2.2.dead with
 |true =>
  refine zK 5 rfl (WP.ret ⟨aa,_,rfl,?_⟩)
  rw[eN,aP hd]
  exact⟨rfl,s0⟩
 |false =>
  refine zj rfl (WP.skip (zw (zg rfl (zk 2 rfl (zf rfl (qq _ _) (zl rfl (by exact s.ld (k:=0) rfl vt rfl) ?_))))))
  refine zc rfl (K3 J.w (s.ae [2,2,2]) eY hw hm hk) ?_
  rintro v h ⟨rfl,s⟩
  dsimp only[bringA,getA,aI] at s
  refine zk 5 rfl ?_
  by_cases he:(writeAllF (aF ε.1.aH) ε).1=0
  ·skip
   refine zC rfl aE (by simp;exact he) ?_
   refine zv (zj rfl (WP.skip (zg rfl (zk 2 rfl (zf rfl (qq _ _) (zl rfl (by exact s.ld (k:=3) rfl vt rfl) ?_))))))
   refine zc rfl (TT J (s.ae [0,1]) gT I) ?_
   rintro v h ⟨rfl,s⟩
   refine zk 2 rfl (WP.ret ⟨aa,_,rfl,?_⟩)
   rw[eN,ak (by rw[hd];decide),ak (by simpa using he)]
   exact⟨rfl,cy.2 ⟨dv,s.ae [3,3,0,1,0]⟩⟩
  ·skip
   refine zB rfl aE (by simp;exact he) ?_
   refine zk 7 rfl (WP.ret ⟨aa,_,rfl,?_⟩)
   rw[eN,ak (by rw[hd];decide),aP he]
   exact⟨rfl,cy.2 ⟨dv,s.ae [3,3,0,0,0]⟩⟩
end
section
variable {told:cR} {p:Nat} {op v:V} {cu:Bool}
theorem Eb (I:W told){n m f:Nat}(s:Sat h S)(h1:1≤n)(h2:n≤65536)(h3:m≤16777216)(J:1≤f)(h5:f≤1024):
  Call ⟨Tryz.prog,told⟩ 30 [.int .i64 (n:Int),.int .i64 (m:Int),.int .i64 (f:Int)] h fun v h'=>∃p a q r,v=.bf [.ptr p 0,.ptr a 0] ∧
   Sat h' (ew a p q r .b_ [] 0::dO r p q (Pl.fresh f)::b7 q p Lg.fresh::aS p (Dk.fresh n m)::S):=by
 refine Call.of_wp (I.free _ rfl) Tryz.func30 rfl rfl (zK 9 rfl (zc rfl (Xk (n:=(n:Int)) (m:=(m:Int)) I s) ?_))
 rintro v h (⟨hn,_,_⟩|⟨_,_,_,_,p,rfl,s⟩)
 ·omega
 rw[dY,dY] at s
 refine zk 10 rfl (zC rfl aE (rfl) (zk 2 rfl (zC rfl (vz Tryz.underlying62) (rfl) (zk 8 rfl (zc rfl (Lc (n:=f) I s J h5 rfl rfl rfl rfl) ?_)))))
 rintro v h ⟨a,q,r,rfl,s⟩
 exact zk 10 rfl (zC rfl aE (rfl) (zk 2 rfl (zC rfl (vz sQ) (rfl) (zk 11 rfl (WP.ret ⟨aa,_,rfl,p,a,q,r,rfl,s⟩)))))
end
section
theorem My (s:Sat h S){e:TypeId}{z:V}(hu:P.underlying t=some (.slice e))(I:zeroT P e=some z)(J:bN P e=some k)(hl:z.cells.length=k)(h1:1≤k):
  ∃h',buildSliceV P h t 0 []=some (.sl h.next 0 0 (.exact 0),h')∧Sat h' (pt h.next (.cells 0 [] false)::S):=by
 refine⟨newRow h [],?_,s.new _⟩
 simp only[buildSliceV,hu,J,I]
 rw[show(Nat.beq z.cells.length k&&Nat.ble (0*k) 65536&&Nat.ble 1 k)=true by rw[hl,fP,bg.2 (by omega),bg.2 h1];rfl,aj]
 simp only[repeatL,fillV,iU,aj]
theorem XI (s:Sat h (pt id (.cells 0 [] false)::S)): Sat h (.arr q (.sl id 0 0 (.exact 0)) []::S) :=
 s.gK fun m r hm=>⟨rfl,.inr ⟨id,0,.exact 0,0,[],rfl,hm,by simp,rfl,rfl,by simp,aU _⟩⟩
end
theorem On : ∀ {l:List Nat},(∀b∈l,b<256)→bytesOf (ofBytes l)=some l:=by
 intro l
 induction l with
 |nil=>intro _;rfl
 |cons b l J =>
  intro h
  have I:=J fun x hx=>h x (b8 _ hx)
  have h2:=h b bZ
  rw[ofBytes] at I
  simp only[ofBytes,iE,bytesOf,I,az,List.cons.injEq,and_true]
  omega
theorem Q0 {v:V}(hv:View h v l): convV Tryz.prog h 28 9 v=some (.str l,h):=by
 obtain⟨I,(⟨rfl|⟨ea,rfl⟩,rfl⟩|⟨id,off,cap,n,cs,st,rfl,J,hl,ho,hc,_⟩)⟩:=hv
 ·simp only[convV,aK,qW,Tryz.underlying5]
 ·simp only[convV,aK,qW,Tryz.underlying5]
 ·have e:rdN h id off l.length=some (ofBytes l):=by rw[uS J hl ho,hc]
  simp only[convV,aK,qW,Tryz.underlying5,e,On I]
def VS (l:List Nat): List Nat:=if l.length≠512∨l=List.replicate 512 0 then[] else l.drop 12
structure DK (δ rZ:Dk): Prop where
 dead:rZ.dead=δ.dead
 aT:rZ.aT=δ.aT
 aq:rZ.aq=δ.aq
 now:rZ.now=δ.now
theorem DK.refl (δ:Dk): DK δ δ:=⟨rfl,rfl,rfl,rfl⟩
theorem DK.at (h:DK δ rZ)(n:Int): rZ.at n=δ.at n:=by rw[Dk.at,Dk.at,h.now,h.aq]
structure DA (N:Nat)(δ:Dk): Prop where
 alive:δ.dead=false
 aT:δ.aT<0
 aq:δ.aq.length=N
 keys:∀k:Int,k∈δ.now.map (·.1)→0≤k∧k<N
 nodup:(δ.now.map (·.1)).Nodup
 good:∀n:Int,0≤n→n<N→h_ (δ.at n)=0
theorem DA.of (h:DA N δ)(k:DK δ rZ): DA N rZ :=
 ⟨k.dead.trans h.alive,by rw[k.aT];exact h.aT,by rw[k.aq];exact h.aq,by rw[k.now];exact h.keys,by rw[k.now];exact h.nodup,fun n a b=>by rw[k.at];exact h.good n a b⟩
theorem iN (h:δ.aT<0): δ.cV=δ:=by
 have:(if 0<δ.aT then δ.aT-1 else δ.aT)=δ.aT:=ak (by omega)
 rw[Dk.cV,this]
theorem T9 (h:DA N δ): δ.cg=(0,{ δ with bj:=δ.log.length }):=by
 rw[Dk.cg,ak (by rw[h.alive];decide),ak (by have:=h.aT;omega),iN h.aT]
theorem GQ {x:LD}{n:Nat}(h:DA N x.2): (aJ x n).1=0∧DK x.2 (aJ x n).2.2:=by
 unfold aJ
 split
 ·exact⟨rfl,DK.refl _⟩
 ·rw[T9 h,ak (by simp)]
  exact⟨rfl,rfl,rfl,rfl,rfl⟩
theorem T_ (h:DA N δ)(h0:0≤n)(h1:n<N)(hb:b.length=512)(hc:h_ b=0):
  (δ.bz n b).1=0∧DA N (δ.bz n b).2∧∀m,(δ.bz n b).2.at m=if n=m then b else δ.at m:=by
 have e:δ.bz n b=(0,δ.wr n b):=by
  rw[Dk.bz,ak (by rw[h.alive];decide),ak (not_not_intro ⟨h0,by rw[h.aq];exact h1,hb⟩),ak (by have:=h.aT;omega)]
 have tw:(δ.wr n b).now=cD n b δ.now:=rfl
 have nN:(δ.wr n b).aq=δ.aq:=rfl
 have I:∀m,(δ.wr n b).at m=if n=m then b else δ.at m:=fun m=>by
  grind[Dk.at,gL]
 have J:(δ.wr n b).aT=δ.aT:=by
  show δ.cV.aT=δ.aT
  rw[iN h.aT]
 rw[e]
 refine⟨rfl,⟨h.alive,by rw[J];exact h.aT,h.aq,fun x hx => ?_,?_,fun m a c => ?_⟩,I⟩
 ·rcases pR.1 hx with rfl|hx
  ·omega
  ·exact h.keys x hx
 ·exact jh h.nodup
 ·rw[I]
  by_cases hm:n=m
  ·grind
  ·rw[ak hm];exact h.good m a c
theorem laidP_get : ∀ {l:List (Int×List Nat)} {m:List (Option (List Nat))} {n:Int} {N:Nat},m.length=N→(l.map (·.1)).Nodup→(∀k:Int,k∈l.map (·.1)→0≤k∧k<N)→0≤n→(laidP l m)[n.toNat]?=match lookL n l with
  |some b=>some (some b)
  |none=>m[n.toNat]?:=by
 intro l
 induction l with
 |nil=>intro m n N _ _ _ _;rfl
 |cons e l ih =>
  intro m n N hm hd J hn
  have I:e.1∉l.map (·.1)∧(l.map (·.1)).Nodup:=List.nodup_cons.1 hd
  have h1:=J e.1 (by simp)
  rw[laidP,ih (N:=N) (by grind) I.2 (fun x hx=>J x (by grind)) hn]
  grind[lookL,gx]
theorem XJ (h:DA N δ): δ.dQ.1=0∧DA N δ.dQ.2∧∀m,0≤m→δ.dQ.2.at m=δ.at m:=by
 have e:δ.dQ=(0,δ.sync):=by rw[Dk.dQ,ak (by rw[h.alive];decide),ak (by have:=h.aT;omega),iN h.aT]
 have I:∀m,0≤m→δ.sync.at m=δ.at m:=fun m hm=>by
  rw[Dk.at,Dk.at]
  have e1:lookL m δ.sync.now=none:=rfl
  rw[show δ.sync.aq=laidP δ.now δ.aq from rfl,laidP_get h.aq h.nodup h.keys hm]
  cases hq:lookL m δ.now with
  |some b=>rfl
  |none=>rfl
 rw[e]
 refine⟨rfl,⟨h.alive,h.aT,by rw[show δ.sync.aq=laidP δ.now δ.aq from rfl,oh];exact h.aq,fun x J=>(by cases J),kq,fun m a c => ?_⟩,I⟩
 rw[I m a];exact h.good m a c
theorem Ld {m:List Nat}{b:Nat}(J:a+m.length≤l.length)(h2:a+m.length≤b): (bu l a m).drop b=l.drop b:=by
 have I:(l.take a).length=a:=by grind
 rw[bu,←cP,A_,lX (by grind),ey,List.drop_drop,bV,I]
 congr 1;omega
theorem yw {m:List Nat}(h:a+m.length≤l.length): (bu l a m)[i]?=if a≤i∧i<a+m.length then m[i-a]? else l[i]?:=by
 grind[bu]
theorem yx {m:List Nat}(I:l.drop 12=m.drop 12)(J:12≤a): dh l a z=dh m a z:=by
 have e:∀l:List Nat,(l.take (a+z)).drop a=((l.drop 12).drop (a-12)).take z:=fun l=>by
  simp_all[E5]
 rw[dh,dh,e,e,I]
theorem Le {m:List Nat}(I:l.drop 12=m.drop 12){low:Nat}: ∀(n i:Nat) (t:List Bool),cellsL l low n i t=cellsL m low n i t:=by
 intro n
 induction n<;>grind[dW,yx,jK,cellsL]
theorem Ec {m:List Nat}(J:l.length=m.length)(I:l.drop 12=m.drop 12): bW l=bW m:=by
 have e1:lI l=lI m:=yx I (by omega)
 have e2:jC l=jC m:=yx I (by omega)
 have e3:l.getD 13 0=m.getD 13 0:=by
  have:∀l:List Nat,l[13]?=(l.drop 12)[1]?:=fun l=>by simp
  grind
 grind[bW,Le]
theorem sW : ∀(k n:Nat),leN (le k n)=n%256^k:=by
 intro k
 induction k<;>grind[le,leN,Nat.mod_mul]
theorem oo {n:Nat}(J:b.length=512): (cW b n).drop 12=b.drop 12∧(cW b n).length=512∧(cW b n).drop 4=(oV b n).drop 4∧dh (cW b n) 0 4=DV 0 ((oV b n).drop 4)%4294967296:=by
 have h1:=yj (n:=n) J
 have h2:(cW b n).length=512:=by grind[cW,c9,dL]
 have I:(cW b n).drop 4=(oV b n).drop 4:=by rfl
 have h4:(oV b n).drop 12=b.drop 12:=by grind[oV,Ld,dL]
 refine⟨?_,h2,I,?_⟩
 ·have:=jm (List.drop 8) I
  grind[List.drop_drop]
 ·have e:(cW b n).take 4=le 4 (DV 0 ((oV b n).drop 4)):=by
   rfl
  grind[dh,sW]
theorem XK {n:Nat}(I:∀x∈b,x<256): ∀x∈oV b n,x<256:=Ao I (NU _ _)
theorem GR {n:Nat}(I:bW b=true)(hb:∀x∈b,x<256): h_ (cW b n)=0∧bW (cW b n)=true∧VS (cW b n)=b.drop 12:=by
 have J:=eB I
 obtain⟨h1,h2,h3,h4⟩:=oo (n:=n) J
 have DM:bW (cW b n)=true:=by grind[Ec]
 have hz:bW (List.replicate 512 0)=false:=by decide +kernel
 grind[CG,XK,h_,VS]
def pgA (ε:aX)(n:Int): List Nat:=match lookL n ε.1.aH with
 |some i=>match ε.1.ai[i.toNat]? with
  |some f=>f.b
  |none=>ε.2.2.at n
 |none=>ε.2.2.at n
structure Ua (N:Nat)(δ:Dk)(aH:List (Int×Int))(i:Nat)(f:Fm): Prop where
 lt:f.aM<N
 here:lookL f.aM aH=some (i:Int)
 aC:h_ f.b=0
 same:f.changed=false→f.b=δ.at f.aM
 kj:f.changed=true→bW f.b=true
structure EC (N:Nat)(ε:aX): Prop where
 dk:DA N ε.2.2
 nodup:(ε.1.aH.map (·.1)).Nodup
 jY:∀(n i:Int),lookL n ε.1.aH=some i→0≤n∧∃(j:Nat) (f:Fm),i=j∧ε.1.ai[j]?=some f∧f.aM=n
 back:∀(i:Nat) (f:Fm),ε.1.ai[i]?=some f→f.aM<0∨Ua N ε.2.2 ε.1.aH i f
 u_:∀k:Int,k∈ε.1.br.map (·.1)→0≤k∧k<N
 AK:(ε.1.br.map (·.1)).Nodup
theorem pY (h:lookL n ε.1.aH=some (j:Int))(I:ε.1.ai[j]?=some f): pgA ε n=f.b:=by
 grind[pgA]
theorem ot (h:lookL n ε.1.aH=none): pgA ε n=ε.2.2.at n:=by simp only[pgA,h]
theorem EC.cases (h:EC N ε)(n:Int): (∃(j:Nat) (f:Fm),lookL n ε.1.aH=some (j:Int)∧ε.1.ai[j]?=some f∧f.aM=n∧0≤n∧Ua N ε.2.2 ε.1.aH j f∧pgA ε n=f.b)∨(lookL n ε.1.aH=none∧pgA ε n=ε.2.2.at n):=by
 cases J:lookL n ε.1.aH with
 |none=>grind[ot]
 |some i =>
  obtain⟨h0,j,f,rfl,I,hp⟩:=h.jY n i J
  refine .inl ⟨j,f,rfl,I,hp,h0,?_,pY J I⟩
  rcases h.back j f I with h1|h1
  ·omega
  ·exact h1
theorem qG {m:List Fm}{g x:Fm}(I:m[i]?=some f)(J:(m.set i g)[j]?=some x): (i=j∧x=g)∨(i≠j∧m[j]?=some x):=by
 grind
theorem EC.set {g:Fm}{y:Lg}(h:EC N ε)(hf:ε.1.ai[i]?=some f)(hp:g.aM=f.aM)(oI:DA N δ)
 (hg:g.aM<0∨Ua N δ ε.1.aH i g)(ho:∀(j:Nat) (x:Fm),i≠j→ε.1.ai[j]?=some x→0≤x.aM→δ.at x.aM=ε.2.2.at x.aM)(hd:∀k:Int,k∈d.map (·.1)→0≤k∧k<N)(Mz:(d.map (·.1)).Nodup):
  EC N ({ ε.1 with ai:=ε.1.ai.set i g,br:=d },(y,δ)):=by
 refine⟨oI,h.nodup,fun n k hk => ?_,fun j x J => ?_,hd,Mz⟩
 ·obtain⟨h0,j,x,rfl,J,Ju⟩:=h.jY n k hk<;>grind
 ·rcases qG hf J with⟨rfl,rfl⟩|⟨tB,J⟩
  ·exact hg
  ·rcases h.back j x J with I|I
   ·omega
   ·by_cases h2:x.aM<0
    ·omega
    ·refine .inr ⟨I.lt,I.here,I.aC,fun hc => ?_,I.kj⟩
     rw[ho j x tB J (by omega)];exact I.same hc
theorem MA {g:Fm}{x:LD}(I:ε.1.ai[i]?=some f)(J:g.b=f.b)(hx:lookL n ε.1.aH=none→x.2.at n=ε.2.2.at n)(hy:∀j:Int,lookL n ε.1.aH=some j→∃f',ε.1.ai[j.toNat]?=some f'):
  pgA ({ ε.1 with ai:=ε.1.ai.set i g,br:=d },x) n=pgA ε n:=by
 unfold pgA
 grind
theorem EC.there (h:EC N ε): ∀j:Int,lookL n ε.1.aH=some j→∃f',ε.1.ai[j.toNat]?=some f':=fun j I=>by
 obtain⟨_,k,f,rfl,J,_⟩:=h.jY n j I<;>grind
theorem EC.out (h:EC N ε)(I:ε.1.ai[i]?=some f):
  (outF ε i).1=0∧EC N (outF ε i).2∧(∀n,pgA (outF ε i).2 n=pgA ε n)∧(outF ε i).2.1.aH=ε.1.aH∧∃g,(outF ε i).2.1.ai[i]?=some g∧g.aM=f.aM∧(0≤g.aM→g.changed=false):=by
 have hi:=(List.getElem?_eq_some_iff.1 I).1
 unfold outF
 rw[I]
 simp only
 by_cases hc:f.aM<0∨f.changed=false
 ·grind
 ·rw[ak hc]
  have J:0≤f.aM:=by omega
  have uG:f.changed=true:=by grind
  have ho:=(h.back i f I).resolve_left (by omega)
  have hg:=ho.kj uG
  rw[ak (by grind)]
  obtain⟨e1,k1⟩:=GQ (x:=ε.2) (n:=dh f.b 4 8) h.dk
  rw[ak (by omega)]
  obtain⟨e2,k2,k3⟩:=T_ (h.dk.of k1) J ho.lt (eB hg) ho.aC
  rw[ak (by omega)]
  have GL:∀m,f.aM≠m→((aJ ε.2 (dh f.b 4 8)).2.2.bz f.aM f.b).2.at m=ε.2.2.at m:=fun m hm=>by rw[k3,ak hm,k1.at]
  refine⟨rfl,h.set I rfl k2 (.inr ⟨ho.lt,ho.here,ho.aC,fun _ => ?_,fun hq=>(by cases hq)⟩) (fun j x tB hx h0=>GL _ fun Jv => ?_) (fun k hk => ?_) (jh h.AK),fun n => ?_,rfl,_,kM hi,rfl,fun _=>rfl⟩
  ·grind
  ·rcases h.back j x hx with h1|h1
   ·omega
   ·have:=h1.here
    rw[←Jv,ho.here] at this
    grind
  ·rcases pR.1 hk with rfl|hk
   ·exact⟨J,ho.lt⟩
   ·exact h.u_ k hk
  ·exact MA I (by rfl) (fun hn=>GL n fun e=>by rw[←e,ho.here] at hn;cases hn) h.there
theorem f_.back (I:f_ π bR){x:Fm}(J:bR.ai[i]?=some x): ∃f t,π.ai[i]?=some f∧x={ f with gz:=t }:=by
 have hi:=(List.getElem?_eq_some_iff.1 J).1
 rw[I.len] at hi
 have hf:π.ai[i]?=some (π.ai[i]'hi):=bx _
 obtain⟨t,ht⟩:=I.get i _ hf<;>grind
theorem EC.r_ (h:EC N ε)(I:f_ ε.1 bR): EC N (bR,ε.2)∧∀n,pgA (bR,ε.2) n=pgA ε n:=by
 refine⟨⟨h.dk,by rw[I.aH];exact h.nodup,fun n i hi => ?_,fun i x hx => ?_,by rw[I.br];exact h.u_,by rw[I.br];exact h.AK⟩,fun n => ?_⟩
 ·rw[I.aH] at hi
  obtain⟨h0,j,f,rfl,hf,hp⟩:=h.jY n i hi
  obtain⟨t,ht⟩:=I.get j f hf
  exact⟨h0,j,_,rfl,ht,hp⟩
 ·obtain⟨f,t,hf,rfl⟩:=I.back hx
  rcases h.back i f hf with J|J
  ·grind
  ·exact .inr ⟨J.lt,by rw[I.aH];exact J.here,J.aC,J.same,J.kj⟩
 ·unfold pgA
  simp only[I.aH]
  cases hl:lookL n ε.1.aH with
  |none=>rfl
  |some i =>
   obtain⟨h0,j,f,rfl,hf,hp⟩:=h.jY n i hl
   obtain⟨t,ht⟩:=I.get j f hf<;>grind
theorem EC.dF {g:Fm}(h:EC N ε)(hg:ε.1.ai[i]?=some g)(hp:g.aM=f.aM)(hc:0≤g.aM→g.changed=false): EC N (dF ε.1 i f,ε.2)∧(∀n,pgA (dF ε.1 i f,ε.2) n=pgA ε n) ∧
  (dF ε.1 i f).ai[i]?=some fA∧∀n,lookL n ε.1.aH=none→lookL n (dF ε.1 i f).aH=none:=by
 have hi:=(List.getElem?_eq_some_iff.1 hg).1
 have J:(ε.1.ai.set i fA)[i]?=some fA:=kM hi
 have Q1:∀n,lookL n (Am.dF ε.1 i f).aH=if 0≤f.aM∧f.aM=n then none else lookL n ε.1.aH:=fun n=>by
  rw[Am.dF]
  by_cases I:f.aM<0
  ·grind
  ·rw[ak I,Gu h.nodup]
   simp_all
 refine⟨⟨h.dk,?_,fun n k hk => ?_,fun j x hx => ?_,h.u_,h.AK⟩,fun n => ?_,J,fun n hn => ?_⟩
 ·rw[Am.dF]
  by_cases I:f.aM<0
  ·rw[aP I];exact h.nodup
  ·rw[ak I];exact yc h.nodup
 ·rw[Q1] at hk
  split at hk
  ·cases hk
  ·obtain⟨I,j,x,rfl,hx,Ju⟩:=h.jY n k hk
   refine⟨I,j,x,rfl,?_,Ju⟩
   show(ε.1.ai.set i fA)[j]?=some x
   grind
 ·rcases qG hg hx with⟨rfl,rfl⟩|⟨tB,hx⟩
  ·exact .inl (by decide)
  ·rcases h.back j x hx with h1|h1
   ·omega
   ·by_cases Q2:x.aM<0
    ·omega
    refine .inr ⟨h1.lt,?_,h1.aC,h1.same,h1.kj⟩
    rw[Q1,ak]
    ·exact h1.here
    ·rintro⟨I,Jv⟩
     rcases h.back i g hg with h2|h2
     ·omega
     ·have e:=h2.here
      rw[hp,Jv,h1.here] at e
      grind
 ·rcases h.cases n with⟨j,x,hl,hx,Ju,I,ho,e⟩|⟨hl,e⟩
  ·rw[e]
   by_cases Jv:f.aM=n
   ·have tB:i=j:=by
     rcases h.back i g hg with h2|h2
     ·omega
     ·have e:=h2.here
      grind
    subst tB
    rw[hg] at hx
    have:=cA hx
    subst this
    rw[ot (by grind)]
    rw[ho.same (hc (by omega)),hp,Jv]
   ·refine pY (j:=j) (by grind) ?_
    show(ε.1.ai.set i fA)[j]?=some x
    grind
  grind[ot]
 ·grind
theorem EC.jP {e:Fm}(h:EC N ε)(he:ε.1.ai[i]?=some e)(hp:e.aM<0)(hl:lookL n ε.1.aH=none)(h0:0≤n)(h1:n<N): EC N (jP ε.1 i n (ε.2.2.at n),ε.2)∧∀m,pgA (jP ε.1 i n (ε.2.2.at n),ε.2) m=pgA ε m:=by
 have hi:=(List.getElem?_eq_some_iff.1 he).1
 have I:(ε.1.ai.set i ⟨n,ε.2.2.at n,1,true,false⟩)[i]?=some ⟨n,ε.2.2.at n,1,true,false⟩:=kM hi
 have Q1:∀m,lookL m (Am.jP ε.1 i n (ε.2.2.at n)).aH=if n=m then some (i:Int) else lookL m ε.1.aH:=fun m=>gL _
 refine⟨⟨h.dk,jh h.nodup,fun m k hk => ?_,fun j x hx => ?_,h.u_,h.AK⟩,fun m => ?_⟩
 ·rw[Q1] at hk
  split at hk
  ·rename_i J
   have:=cA hk
   subst this
   subst J
   exact⟨h0,i,_,rfl,I,rfl⟩
  ·obtain⟨h0,j,x,rfl,hx,Ju⟩:=h.jY m k hk
   refine⟨h0,j,x,rfl,?_,Ju⟩
   show(ε.1.ai.set i _)[j]?=some x
   grind
 ·rcases qG he hx with⟨rfl,rfl⟩|⟨tB,hx⟩
  ·exact .inr ⟨h1,by grind,h.dk.good n h0 h1,fun _=>rfl,fun hq=>(by cases hq)⟩
  ·rcases h.back j x hx with h2|h2
   ·omega
   ·refine .inr ⟨h2.lt,?_,h2.aC,h2.same,h2.kj⟩
    rw[Q1,ak]
    ·exact h2.here
    ·rintro rfl
     rw[h2.here] at hl;cases hl
 ·by_cases J:n=m
  ·subst J
   rw[pY (j:=i) (by grind) I,ot hl]
  ·rcases h.cases m with⟨j,x,iW,hx,Ju,_,ho,e2⟩|⟨iW,e2⟩
   ·rw[e2]
    refine pY (j:=j) (by grind) ?_
    show(ε.1.ai.set i _)[j]?=some x
    grind
   grind[ot]
theorem EC.frame {g:Fm}(h:EC N ε)(hf:ε.1.ai[i]?=some f)(J:g.aM=f.aM)(hb:g.b=f.b)(hc:g.changed=f.changed): EC N ({ ε.1 with ai:=ε.1.ai.set i g },ε.2)∧∀n,pgA ({ ε.1 with ai:=ε.1.ai.set i g },ε.2) n=pgA ε n:=by
 refine⟨h.set (y:=ε.2.1) (δ:=ε.2.2) hf J h.dk ?_ (fun _ _ _ _ _=>rfl) h.u_ h.AK,fun n=>MA hf hb (fun _=>rfl) h.there⟩
 rcases h.back i f hf with I|I
 ·omega
 ·exact .inr ⟨by rw[J];exact I.lt,by rw[J];exact I.here,by rw[hb];exact I.aC,by rw[J,hb,hc];exact I.same,by rw[hb,hc];exact I.kj⟩
theorem fE.ec (hr:fE ε n e b af)(h:EC N ε): EC N af∧(∀m,pgA af m=pgA ε m)∧(0≤n→n<N→e=0∧b=pgA ε n)∧(¬(0≤n∧n<N)→e=1∧af=ε):=by
 have nN:=h.dk.aq
 cases hr with
 |arg I=>grind
 |AE i f h1 J hl hf =>
  obtain⟨k1,k2⟩:=h.frame (g:={ f with gz:=true,pins:=f.pins+1 }) hf rfl rfl rfl<;>grind[pY]
 |out bR i f h1 J hl I hf hh he=>exact absurd ((h.r_ I).1.out hf).1 he
 |read bR i f h1 J hl I hf hh he hr =>
  obtain⟨k1,k2,k3,k4,g,k5,k6,k7⟩:=(h.r_ I).1.out hf
  refine absurd ?_ hr
  rw[nN] at J
  rw[Dk.lV,ak (by rw[k2.dk.alive];decide),ak (by rw[k2.dk.aq];exact not_not_intro ⟨h1,J⟩)]
 |bad bR i f h1 J hl I hf hh he hr hc =>
  obtain⟨k1,k2,k3,k4,g,k5,k6,k7⟩:=(h.r_ I).1.out hf
  rw[nN] at J
  exact absurd (k2.dk.good n h1 J) hc
 |load bR i f h1 J hl I hf hh he hr hc =>
  obtain⟨n1,n2⟩:=h.r_ I
  obtain⟨k1,k2,k3,k4,g,k5,k6,k7⟩:=n1.out hf
  rw[nN] at J
  obtain⟨f1,f2,f3,f4⟩:=k2.dF k5 k6 k7
  have iW:lookL n (outF (bR,ε.2) i).2.1.aH=none:=by rw[k4];rw[I.aH];exact hl
  obtain⟨l1,l2⟩:=f1.jP f3 (by decide) (f4 n iW) h1 J
  exact⟨l1,fun m=>by grind,fun _ _=>⟨rfl,by grind[ot]⟩,fun I=>absurd ⟨h1,J⟩ I⟩
theorem Q3 {x:LD}(h:EC N (π,x)): EC N ((unpinF π n).2,x)∧∀m,pgA ((unpinF π n).2,x) m=pgA (π,x) m:=by
 unfold unpinF
 split
 ·grind
 ·split
  ·grind
  ·rename_i i hi f I
   exact h.frame (g:={ f with pins:=f.pins-1 }) I rfl rfl rfl
theorem my.ec (I:my ε n e b af)(h:EC N ε)(J:∀f∈ε.1.ai,f.pins=0): EC N af∧(∀m,pgA af m=pgA ε m)∧(0≤n→n<N→e=0∧b=pgA ε n)∧(¬(0≤n∧n<N)→e=1∧af=ε):=by
 cases I with
 |dead hd=>rw[h.dk.alive] at hd;cases hd
 |jj e b af hd I he =>
  obtain⟨k1,k2,k3,k4⟩:=I.ec h<;>grind
 |tU b af hd I he=>exact absurd (I.CM J).1 he
 |read b af hd I he =>
  obtain⟨k1,k2,k3,k4⟩:=I.ec h<;>grind[Q3]
theorem GRd.ec (I:GRd ε now false n e b af)(h:EC N ε)(J:∀f∈ε.1.ai,f.pins=0): EC N af∧(∀m,pgA af m=pgA ε m) ∧
  (0≤n→n<N→e=0∧b=(match lookL n now with|some b=>b|none=>pgA ε n))∧(¬(0≤n∧n<N)→e=1):=by
 have nN:=h.dk.aq
 cases I with
 |arg hn=>grind
 |cu _ _ ho=>cases ho
 |own b h1 h2 _ hl=>grind
 |read e b af h1 h2 _ hl I =>
  obtain⟨k1,k2,k3,k4⟩:=I.ec h J<;>grind
theorem AL : ∀(N:Nat) (l:List Int),l.Nodup→(∀n∈l,0≤n∧n<N)→l.length≤N:=by
 intro N
 induction N with
 |zero =>
  intro l _ h
  cases l<;>grind[List.mem_cons_self]
 |succ N I =>
  intro l hd h
  have J:=I (l.erase (N:Int)) (hd.erase _) fun n hn=>by
   grind
  grind
structure NW (N:Nat)(now:List (Int×List Nat)): Prop where
 good:∀e∈now,bW e.2=true∧∀x∈e.2,x<256
 keys:∀k:Int,k∈now.map (·.1)→0≤k∧k<N
 nodup:(now.map (·.1)).Nodup
theorem NW.nil (N:Nat): NW N []:=⟨fun e h=>(by cases h),fun k h=>(by cases h),kq⟩
theorem Ed {a:α}: ∀ {l:List (Int×α)} {e:Int×α},e∈cD n a l→e=(n,a)∨e∈l:=by
 intro l
 induction l<;>grind[cD]
theorem NW.put (h:NW N now)(J:0≤n)(h1:n<N)(hg:bW b=true)(hb:∀x∈b,x<256): NW N (cD n b now):=by
 refine⟨fun e he => ?_,fun k I => ?_,jh h.nodup⟩
 ·rcases Ed he with rfl|he
  ·grind
  ·exact h.good e he
 ·rcases pR.1 I with rfl|I
  ·omega
  ·exact h.keys k I
theorem NW.len (h:NW N now): now.length≤N:=by
 have:=AL N _ h.nodup h.keys
 rwa [jl] at this
theorem NW.look (h:NW N now)(I:lookL n now=some b): bW b=true∧∀x∈b,x<256:=h.good _ (fJ I)
theorem om.ec (I:om ε now false n b e bL af)(h:EC N ε)(J:∀f∈ε.1.ai,f.pins=0): EC N af∧(∀m,pgA af m=pgA ε m) ∧
  (¬(0≤n∧n<N)→e=1∧bL=now)∧(0≤n→n<N→bW b=false→e=4∧bL=now)∧(0≤n→n<N→bW b=true→e=0∧bL=cD n b now):=by
 cases I with
 |may e c af I he =>
  obtain⟨k1,k2,k3,k4⟩:=I.ec h J<;>grind
 |bad c af I hg =>
  obtain⟨k1,k2,k3,k4⟩:=I.ec h J<;>grind
 |done c af I hg =>
  obtain⟨k1,k2,k3,k4⟩:=I.ec h J<;>grind
theorem ChR.ec {l:List Int}{cs:List cq}(I:ChR now l ε e cs af): EC N ε→fG ε→(∀n∈l,0≤n∧n<N)→EC N af∧(∀m,pgA af m=pgA ε m)∧e=0:=by
 induction I with
 |nil ε=>grind
 |err n l ε e b af I he =>
  intro h J hl
  obtain⟨k1,k2,k3,k4⟩:=I.ec h J.pins<;>grind
 |part n l ε dX b af c e cs lz I hb hd hc je ht ih =>
  intro h J hl
  obtain⟨k1,k2,k3,k4⟩:=I.ec h J.pins
  obtain⟨i1,i2,i3⟩:=ih k1 (I.jk J) fun m hm=>hl m (b8 _ hm)<;>grind
 |whole n l ε dX b af e cs lz I hb hd ht ih =>
  intro h J hl
  obtain⟨k1,k2,k3,k4⟩:=I.ec h J.pins
  obtain⟨i1,i2,i3⟩:=ih k1 (I.jk J) fun m hm=>hl m (b8 _ hm)<;>grind
theorem EC.log {x:LD}(h:EC N ε)(k:DK ε.2.2 x.2): EC N (ε.1,x)∧∀m,pgA (ε.1,x) m=pgA ε m:=by
 refine⟨⟨h.dk.of k,h.nodup,h.jY,fun i f J => ?_,h.u_,h.AK⟩,fun m => ?_⟩
 ·rcases h.back i f J with I|I
  ·omega
  ·exact .inr ⟨I.lt,I.here,I.aC,fun hc=>by rw[k.at];exact I.same hc,I.kj⟩
 ·unfold pgA
  simp only[k.at]
theorem EC.put (h:EC N ε)(hl:lookL n ε.1.aH=some (i:Int))(I:ε.1.ai[i]?=some f)(hg:bW b=true)(hb:∀x∈b,x<256)(h0:0≤n)(h1:n<N):
  EC N (vV ε.1 n i f b aO,ε.2)∧∀m,pgA (vV ε.1 n i f b aO,ε.2) m=if m=n then cW b aO else pgA ε m:=by
 obtain⟨s1,s2,s3⟩:=GR (n:=aO) hg hb
 have hi:=(List.getElem?_eq_some_iff.1 I).1
 have hp:f.aM=n:=by
  obtain⟨_,j,x,tB,hx,J⟩:=h.jY n i hl<;>grind
 have ho:=(h.back i f I).resolve_left (by omega)
 refine⟨h.set (y:=ε.2.1) (δ:=ε.2.2) I rfl h.dk (.inr ⟨ho.lt,ho.here,s1,fun hq=>(by cases hq),fun _=>s2⟩) (fun _ _ _ _ _=>rfl) (fun k hk => ?_) (jh h.AK),fun m => ?_⟩
 ·rcases pR.1 hk with rfl|hk
  ·omega
  ·exact h.u_ k hk
 ·by_cases hm:m=n
  ·subst hm
   rw[aP rfl]
   exact pY (ε:=(vV ε.1 m i f b aO,ε.2)) hl (kM hi)
  ·rcases h.cases m with⟨j,x,iW,hx,J,_,_,e2⟩|⟨iW,e2⟩<;>grind[pY,vV,ot]
theorem PtR.ec {l:List Int}(I:PtR now aO l ε e af): EC N ε→fG ε→NW N now→(∀n∈l,0≤n∧n<N)→EC N af∧e=0 ∧
  ∀m,pgA af m=if m∈l then(match lookL m now with|some b=>cW b aO|none=>pgA ε m) else pgA ε m:=by
 induction I with
 |nil ε=>grind
 |jj n l ε e b af I he =>
  intro h J hn hl
  have:=hl n bZ
  exact absurd ((I.ec h).2.2.1 this.1 this.2).1 he
 |bad n l ε b0 b af I hb he =>
  intro h J hn hl
  exact absurd ((I.put (b:=b) (aO:=aO) J).2.2 (hn.look hb).1) he
 |put n l ε b0 b af e lz I hb he ht ih =>
  intro h J hn hl
  have j7:=hl n bZ
  obtain⟨k1,k2,k3,k4⟩:=I.ec h
  obtain⟨i,f,p1,p2,p3,p4,p5⟩:=I.at J.pins
  have hg:=hn.look hb
  have e1:=tV (aO:=aO) p1 p2 p3 hg.1
  obtain⟨q1,q2⟩:=k1.put (aO:=aO) p1 p2 hg.1 hg.2 j7.1 j7.2
  have Jw:=(I.put (b:=b) (aO:=aO) J).1
  rw[e1] at ih Jw
  obtain⟨i1,i2,i3⟩:=ih q1 Jw hn fun m hm=>hl m (b8 _ hm)
  refine⟨i1,i2,fun m => ?_⟩
  rw[i3,q2]
  by_cases hm:m=n
  ·grind
  ·grind
theorem ru : ∀ {l:List Int} {ε:aX},EC N ε→(∀n∈l,(lookL n ε.1.aH).isSome=true)→(writeAllF l ε).1=0∧EC N (writeAllF l ε).2∧(∀m,pgA (writeAllF l ε).2 m=pgA ε m):=by
 intro l
 induction l with
 |nil=>intro ε h _;exact⟨rfl,h,fun _=>rfl⟩
 |cons n l ih =>
  intro ε h hl
  cases I:lookL n ε.1.aH with
  |none=>grind
  |some i =>
   obtain⟨_,j,f,rfl,J,hp⟩:=h.jY n i I
   obtain⟨k1,k2,k3,k4,_⟩:=h.out J<;>grind[eW,Int.toNat_natCast,writeAllF]
theorem GS (h:EC N ε): (dM ε.1 ε.2.2).1=0∧EC N ((dM ε.1 ε.2.2).2.1,(ε.2.1,(dM ε.1 ε.2.2).2.2))∧∀m,0≤m→pgA ((dM ε.1 ε.2.2).2.1,(ε.2.1,(dM ε.1 ε.2.2).2.2)) m=pgA ε m:=by
 obtain⟨s1,s2,s3⟩:=XJ h.dk
 have e:dM ε.1 ε.2.2=(0,{ ε.1 with br:=ε.1.br.filter fun e=>e.2.2 },ε.2.2.dQ.2):=by grind[dM]
 rw[e]
 have J:∀k,k∈((ε.1.br.filter fun e=>e.2.2).map (·.1))→k∈ε.1.br.map (·.1):=fun k hk=>by
  grind
 refine⟨rfl,⟨s2,h.nodup,h.jY,fun i f hf => ?_,fun k hk=>h.u_ k (J k hk),(List.filter_sublist.map _).nodup h.AK⟩,fun m hm => ?_⟩
 ·rcases h.back i f hf with I|I
  ·omega
  ·by_cases h0:f.aM<0
   ·omega
   ·exact .inr ⟨I.lt,I.here,I.aC,fun hc=>by rw[s3 _ (by omega)];exact I.same hc,I.kj⟩
 ·grind[pgA]
theorem Q4 (h:EC N ε): (eN ε).1=0∧EC N (eN ε).2∧∀m,0≤m→pgA (eN ε).2 m=pgA ε m:=by
 obtain⟨I,w2,J⟩:=ru (l:=aF ε.1.aH) h fun n hn=>by
  cases hq:lookL n ε.1.aH<;>grind[fB,gx]
 obtain⟨p1,p2,p3⟩:=GS w2
 have e:eN ε=((dM (writeAllF (aF ε.1.aH) ε).2.1 (writeAllF (aF ε.1.aH) ε).2.2.2).1,((dM (writeAllF (aF ε.1.aH) ε).2.1 (writeAllF (aF ε.1.aH) ε).2.2.2).2.1,((writeAllF (aF ε.1.aH) ε).2.2.1,(dM (writeAllF (aF ε.1.aH) ε).2.1 (writeAllF (aF ε.1.aH) ε).2.2.2).2.2))):=by
  rw[eN,ak (by rw[h.dk.alive];decide),ak (by omega)]
 rw[e]
 exact⟨p1,p2,fun m hm=>by grind⟩
structure EL (K:Nat)(x:LD): Prop where
 log:x.1.b=x.2.log
 cert:x.1.forced≤x.2.bj
 size:x.1.base+x.1.b.length≤K
theorem EL.force {x:LD}{n:Nat}(h:EL K x): EL K (aJ x n).2:=by
 unfold aJ Dk.cg
 split
 ·exact h
 ·by_cases hd:x.2.dead=true
  ·grind
  ·rw[ak hd]
   by_cases I:x.2.aT=0
   ·rw[aP I,aP (show(9:Int)≠0 by decide)];exact⟨h.log,h.cert,h.size⟩
   ·rw[ak I,ak (show ¬(0:Int)≠0 by decide)];exact⟨h.log,by rw[h.log];exact aU _,h.size⟩
theorem EL.write {x:LD}(h:EL K x): EL K (x.1,(x.2.bz n b).2):=by
 unfold Dk.bz
 split
 ·exact h
 ·split
  ·exact h
  ·split<;>exact⟨h.log,h.cert,h.size⟩
theorem uy (K:Nat): jZ (EL K):=⟨fun _ _ h=>h.force,fun _ _ _ h=>h.write⟩
theorem EL.out (h:EL K ε.2): EL K (outF ε i).2.2:=(uy K).out h
theorem my.el (I:my ε n e b af)(h:EL K ε.2): EL K af.2:=(uy K).rd I h
theorem GRd.el {cu:Bool}(I:GRd ε now cu n e b af)(h:EL K ε.2): EL K af.2:=(uy K).qF I h
theorem om.el {cu:Bool}(I:om ε now cu n b e bL af)(h:EL K ε.2): EL K af.2:=(uy K).y5 I h
theorem ChR.el {l:List Int}{cs:List cq}(I:ChR now l ε e cs af)(h:EL K ε.2): EL K af.2:=(uy K).ch I h
theorem PtR.el {l:List Int}(I:PtR now aO l ε e af)(h:EL K ε.2): EL K af.2:=(uy K).pt I h
theorem xm : ∀ {l:List Int} {ε:aX},EL K ε.2→fG ε→EL K (writeAllF l ε).2.2∧fG (writeAllF l ε).2∧bM (writeAllF l ε).2≤bM ε:=by
 intro l
 induction l with
 |nil=>intro ε h I;exact⟨h,I,aU _⟩
 |cons n l J =>
  intro ε h I
  have step:EL K (eW ε n).2.2∧fG (eW ε n).2∧bM (eW ε n).2≤bM ε:=by
   unfold eW
   split
   ·grind
   ·exact⟨h.out,⟨rY I.ok,sV I.pins,sU I.full⟩,Jn⟩
  grind[writeAllF]
structure EI (N B:Nat)(ε:aX): Prop where
 ok:fG ε
 ec:EC N ε
 el:EL (B*1048600) ε.2
 bM:bM ε≤B*65536
theorem EI.more (h:EI N B ε){I:Nat}(J:B≤I): EI N I ε :=
 ⟨h.ok,h.ec,⟨h.el.log,h.el.cert,bX h.el.size (rH _ J)⟩,bX h.bM (rH _ J)⟩
theorem EI.rd (h:EI N B ε)(I:my ε n e b af): EI N B af :=
 ⟨I.jk h.ok,(I.ec h.ec h.ok.pins).1,I.el h.el,bX I.bM h.bM⟩
theorem EI.qF (h:EI N B ε)(I:GRd ε now false n e b af): EI N B af :=
 ⟨I.jk h.ok,(I.ec h.ec h.ok.pins).1,I.el h.el,bX I.bM h.bM⟩
theorem EI.y5 (h:EI N B ε)(I:om ε now false n b e bL af): EI N B af :=
 ⟨I.jk h.ok,(I.ec h.ec h.ok.pins).1,I.el h.el,bX I.bM h.bM⟩
theorem EI.many (h:EI N B ε): N≤65536:=by
 have:=h.ok.ok.dk.many
 rwa [h.ec.dk.aq] at this
theorem EI.aH (h:EI N B ε): (∀n:Int,n∈ε.1.aH.map (·.1)→0≤n∧n<N)∧ε.1.aH.length≤N:=by
 have I:∀n:Int,n∈ε.1.aH.map (·.1)→0≤n∧n<N:=fun n hn=>by
  cases J:lookL n ε.1.aH with
  |none=>grind[gx]
  |some i =>
   obtain⟨h0,j,f,rfl,hf,hp⟩:=h.ec.jY n i J
   have:=(h.ec.back j f hf).resolve_left (by omega)
   exact⟨h0,hp ▸ this.lt⟩
 have:=AL N _ h.ec.nodup I
 grind
theorem EI.writeAll (h:EI N B ε): (writeAllF (aF ε.1.aH) ε).1=0∧EI N B (writeAllF (aF ε.1.aH) ε).2∧∀m,pgA (writeAllF (aF ε.1.aH) ε).2 m=pgA ε m:=by
 obtain⟨I,w2,J⟩:=ru (l:=aF ε.1.aH) h.ec fun n hn=>by
  cases hq:lookL n ε.1.aH<;>grind[fB,gx]
 obtain⟨k1,k2,k3⟩:=xm (l:=aF ε.1.aH) h.el h.ok
 exact⟨I,⟨k2,w2,k1,bX k3 h.bM⟩,J⟩
theorem EI.sync (h:EI N B ε): (dM ε.1 ε.2.2).1=0∧EI N B ((dM ε.1 ε.2.2).2.1,(ε.2.1,(dM ε.1 ε.2.2).2.2))∧∀m,0≤m→pgA ((dM ε.1 ε.2.2).2.1,(ε.2.1,(dM ε.1 ε.2.2).2.2)) m=pgA ε m:=by
 obtain⟨p1,p2,p3⟩:=GS h.ec
 refine⟨p1,?_,p3⟩
 have e0:ε.2.2.dQ=(0,ε.2.2.sync):=by rw[Dk.dQ,ak (by rw[h.ec.dk.alive];decide),ak (by have:=h.ec.dk.aT;omega),iN h.ec.dk.aT]
 have e:dM ε.1 ε.2.2=(0,{ ε.1 with br:=ε.1.br.filter fun e=>e.2.2 },ε.2.2.sync):=by grind[dM]
 rw[e] at p2 ⊢
 have hd:=h.ok.ok.dk
 have J:∀(i:Nat) (b:List Nat),(laidP ε.2.2.now ε.2.2.aq)[i]?=some (some b)→b.length=512:=fun i b I=>by
  have h1:=laidP_get (n:=(i:Int)) h.ec.dk.aq h.ec.dk.nodup h.ec.dk.keys (by omega)
  rw[dY] at h1
  rw[h1] at I
  cases hq:lookL (i:Int) ε.2.2.now with
  |some x=>rw[hq] at I;have:=cA (cA I);subst this;exact hd.now _ (fJ hq)
  |none=>rw[hq] at I;exact hd.aq i b I
 refine⟨⟨⟨⟨h.ok.ok.pl.hand,h.ok.ok.pl.many,h.ok.ok.pl.aH,h.ok.ok.pl.len,h.ok.ok.pl.pins⟩,h.ok.ok.lg,⟨hd.aT,hd.len,hd.room,fun e he=>(by cases he),J,hd.bj,by show(laidP _ _).length≤_;rw[oh];exact hd.many⟩⟩,h.ok.pins,⟨h.ok.full.nodup,h.ok.full.jY⟩⟩,p2,⟨h.el.log,h.el.cert,h.el.size⟩,?_⟩
 have:=h.bM
 simp only[Am.bM] at this ⊢
 have e2:ε.2.2.sync.waiting.length=0:=rfl
 omega
theorem EI.clean (h:EI N B ε): (eN ε).1=0∧EI N B (eN ε).2∧∀m,0≤m→pgA (eN ε).2 m=pgA ε m:=by
 obtain⟨I,w2,J⟩:=h.writeAll
 obtain⟨p1,p2,p3⟩:=w2.sync
 have e:eN ε=((dM (writeAllF (aF ε.1.aH) ε).2.1 (writeAllF (aF ε.1.aH) ε).2.2.2).1,((dM (writeAllF (aF ε.1.aH) ε).2.1 (writeAllF (aF ε.1.aH) ε).2.2.2).2.1,((writeAllF (aF ε.1.aH) ε).2.2.1,(dM (writeAllF (aF ε.1.aH) ε).2.1 (writeAllF (aF ε.1.aH) ε).2.2.2).2.2))):=by
  rw[eN,ak (by rw[h.ec.dk.alive];decide),ak (by omega)]
 rw[e]
 exact⟨p1,p2,fun m hm=>by grind⟩
theorem EI.force {n:Nat}(h:EI N B ε): (aJ ε.2 n).1=0∧EI N B (ε.1,(aJ ε.2 n).2)∧∀m,pgA (ε.1,(aJ ε.2 n).2) m=pgA ε m:=by
 obtain⟨f1,f2⟩:=GQ (n:=n) h.ec.dk
 obtain⟨I,J⟩:=h.ec.log f2
 refine⟨f1,⟨⟨⟨h.ok.ok.pl,vU h.ok.ok.lg,oH h.ok.ok.dk⟩,h.ok.pins,h.ok.full⟩,I,h.el.force,?_⟩,J⟩
 have:=h.bM
 grind[Am.bM,mq]
theorem EI.app {kd:Int}{c:List cq}(h:EI N B ε)(hB:B≤1000)(hg:ej kd c=true):
  EI N (B+1) (ε.1,(aG ε.2 kd tx pv nx data c).2)∧(∀m,pgA (ε.1,(aG ε.2 kd tx pv nx data c).2) m=pgA ε m) ∧
  (((aG ε.2 kd tx pv nx data c).1.2=0∧aG ε.2 kd tx pv nx data c=((ε.2.1.base+ε.2.1.b.length,0),(ε.2.1.app (cC ε.2.1 kd tx pv nx data c),{ ε.2.2 with log:=ε.2.2.log++cC ε.2.1 kd tx pv nx data c }))) ∨
   (aG ε.2 kd tx pv nx data c).1.2=7∨((aG ε.2 kd tx pv nx data c).1.2=2∧1048576<(dD kd tx pv nx data c).length)):=by
 have hs:=h.el.size
 have J:=vW (kd:=kd) (tx:=tx) (pv:=pv) (nx:=nx) (data:=data) (c:=c) h.ok.ok.lg h.ok.ok.dk h.el.log (by omega)
 have u9:Am.bM (ε.1,(aG ε.2 kd tx pv nx data c).2)≤(B+1)*65536:=by
  have e:Am.bM (ε.1,(aG ε.2 kd tx pv nx data c).2)=Am.bM ε:=by grind[Am.bM]
  rw[e]
  exact bX h.bM (rH _ (kQ B))
 have fC:(aG ε.2 kd tx pv nx data c).2.1.base+(aG ε.2 kd tx pv nx data c).2.1.b.length≤(B+1)*1048600:=by
  omega
 have main:∀(hk:DK ε.2.2 (aG ε.2 kd tx pv nx data c).2.2) (hc:(aG ε.2 kd tx pv nx data c).2.1.forced≤(aG ε.2 kd tx pv nx data c).2.2.bj),EI N (B+1) (ε.1,(aG ε.2 kd tx pv nx data c).2)∧∀m,pgA (ε.1,(aG ε.2 kd tx pv nx data c).2) m=pgA ε m:=fun hk hc=>by
  obtain⟨l1,l2⟩:=h.ec.log hk
  exact⟨⟨⟨⟨h.ok.ok.pl,J.1,J.2.1⟩,h.ok.pins,h.ok.full⟩,l1,⟨J.2.2.1,hc,fC⟩,u9⟩,l2⟩
 rcases fh ε.2 kd tx pv nx data c with⟨e,he,hc,I⟩|⟨hd,hf,I⟩|⟨_,_,hd,eX,hf,I⟩
 ·obtain⟨m1,m2⟩:=main (by rw[I];exact DK.refl _) (by rw[I];exact h.el.cert)
  refine⟨m1,m2,.inr ?_⟩
  rw[I]
  rcases hc with⟨_,hb⟩|⟨rfl,hb⟩|⟨_,hb⟩|⟨rfl,hb⟩
  ·grind
  ·grind
  ·rw[h.ec.dk.alive] at hb;cases hb
  ·simp
 ·have:=h.ec.dk.aT;omega
 ·rw[iN h.ec.dk.aT] at I
  obtain⟨m1,m2⟩:=main (by rw[I];exact⟨rfl,rfl,rfl,rfl⟩) (by rw[I];exact h.el.cert)
  exact⟨m1,m2,.inl ⟨by rw[I],I⟩⟩
theorem EI.done {kd:Int}{cl:Bool}(h:EI N B ε)(hB:B≤1000)(hn:NW N now)(h1:1≤kd)(h2:kd≤7)(hr:DnR ε now kd tx pv nx data 0 aO e cl af):
  (cl=false∧(e=7∨e=2)∧EI N (B+2) af∧∀m,pgA af m=pgA ε m) ∨
  (cl=true∧e=0∧EI N (B+2) af∧∀m,pgA af m=match lookL m now with|some b=>cW b aO|none=>pgA ε m):=by
 have I:∀n∈aF now,0≤n∧n<N:=fun n hq=>hn.keys n (fB.1 hq)
 have hN:=h.many
 have eX:∀ {c:List cq} {af:aX} {e:Int},ChR now (aF now) ε e c af→ej kd c=true:=fun J=>by
  refine yq ⟨h1,by omega⟩ (J.fit (fun x hx=>eB (hn.good x hx).1) fun n hq => ?_)<;>grind
 cases hr with
 |arg hq=>omega
 |dead _ _ _ hd=>rw[h.ec.dk.alive] at hd;cases hd
 |kj e c af _ _ _ hd J he=>exact absurd (J.ec h.ec h.ok I).2.2 he
 |app c af _ _ _ hd J he =>
  obtain⟨c1,c2,c3⟩:=J.ec h.ec h.ok I
  have hi:EI N B af:=⟨J.jk h.ok,c1,J.el h.el,bX J.bM h.bM⟩
  obtain⟨a1,a2,a3⟩:=hi.app (kd:=kd) (tx:=tx) (pv:=pv) (nx:=nx) (data:=data) (c:=c) hB (eX J)
  refine .inl ⟨rfl,?_,a1.more (by omega),fun m=>by grind⟩<;>grind
 |put c af e lz _ _ _ hd J ha hp =>
  obtain⟨c1,c2,c3⟩:=J.ec h.ec h.ok I
  have hi:EI N B af:=⟨J.jk h.ok,c1,J.el h.el,bX J.bM h.bM⟩
  obtain⟨a1,a2,a3⟩:=hi.app (kd:=kd) (tx:=tx) (pv:=pv) (nx:=nx) (data:=data) (c:=c) hB (eX J)
  obtain⟨p1,p2,p3⟩:=hp.ec a1.ec a1.ok hn I
  have hl:(aF now).length≤N:=by
   have:=hn.len
   rw[aF,(eL _).length_eq,jl];exact this
  have LZ:=hp.bM a1.ok
  have sF:=a1.bM
  refine .inr ⟨rfl,p2,⟨hp.jk a1.ok,p1,?_,by omega⟩,fun m => ?_⟩
  ·have:=hp.el a1.el
   exact⟨this.log,this.cert,bX this.size (rH _ (by omega))⟩
  ·grind[fB,gx]
theorem Lf (n:Nat): (digits 9 n).length≤10:=vA 9 n
def j8 (π:Pl)(n:Int)(b:List Nat): Prop:=∃(i:Nat) (f:Fm),π.ai[i]?=some f∧f.aM=n∧0≤n∧f.changed=true∧f.b=b
abbrev VP := (Int→List Nat→Prop)→List (Int×(Nat×Bool))→LD→Prop
abbrev vw (P:VP)(ε:aX): Prop:=P (j8 ε.1) ε.1.br ε.2
theorem Jx (hn:f_ π bR): j8 bR=j8 π:=by
 funext n b
 refine propext ⟨fun⟨i,x,hx,I,J,h2,h3⟩ => ?_,fun⟨i,f,hf,I,J,h2,h3⟩ => ?_⟩
 ·obtain⟨f,t,hf,rfl⟩:=hn.back hx
  exact⟨i,f,hf,I,J,h2,h3⟩
 ·obtain⟨t,ht⟩:=hn.get i f hf
  exact⟨i,_,ht,I,J,h2,h3⟩
theorem BH {g:Fm}(J:π.ai[i]?=some f)(hs:∀n b,(f.aM=n∧0≤n∧f.changed=true∧f.b=b)↔(g.aM=n∧0≤n∧g.changed=true∧g.b=b)){w:List (Int×Int)}{hd:Nat}: j8 ⟨π.ai.set i g,w,d,hd⟩=j8 π:=by
 have hi:=(List.getElem?_eq_some_iff.1 J).1
 funext n b
 refine propext ⟨fun⟨j,x,I,h⟩ => ?_,fun⟨j,x,I,h⟩ => ?_⟩
 ·rcases qG J I with⟨rfl,rfl⟩|⟨_,I⟩
  ·exact⟨i,f,J,(hs n b).2 h⟩
  ·exact⟨j,x,I,h⟩
 ·by_cases hj:i=j
  ·subst hj
   rw[J] at I
   have:=cA I
   subst this
   exact⟨i,g,kM hi,(hs n b).1 h⟩
  ·exact⟨j,x,by grind,h⟩
theorem Q5 {g:Fm}(J:π.ai[i]?=some g)(hc:0≤g.aM→g.changed=false): j8 (dF π i f)=j8 π :=
 BH J fun n b=>⟨(fun⟨h1,h0,I,_⟩=>by grind),fun⟨_,_,I,_⟩=>(by cases I)⟩
theorem Oo {e:Fm}(he:π.ai[i]?=some e)(J:e.aM<0): j8 (jP π i n b)=j8 π :=
 BH he fun m c=>⟨fun⟨h1,h0,_⟩=>by omega,fun⟨_,_,I,_⟩=>(by cases I)⟩
structure mz (N:Nat)(P:VP): Prop where
 one:∀(ε:aX) (i:Nat) (f:Fm),EC N ε→ε.1.ai[i]?=some f→0≤f.aM→f.changed=true→vw P ε→vw P (outF ε i).2
theorem jZ.kK {R:LD→Prop}(h:jZ R)(N:Nat): mz N (fun _ _ x=>R x):=⟨fun _ _ _ _ _ _ _ hv=>h.out hv⟩
section
variable {P:VP} {l:List Int} {cs:List cq}
theorem mz.out (h:mz N P)(he:EC N ε)(I:ε.1.ai[i]?=some f)(hv:vw P ε): vw P (outF ε i).2:=by
 by_cases J:f.aM<0∨f.changed=false
 ·grind[outF]
 ·exact h.one ε i f he I (by omega) (by grind) hv
theorem mz.jj (h:mz N P)(hr:fE ε n e b af)(he:EC N ε)(hv:vw P ε): vw P af:=by
 cases hr with
 |arg I=>exact hv
 |AE i f h1 J hl hf =>
  grind[BH]
 |out bR i f h1 J hl I hf hh hq=>exact absurd ((he.r_ I).1.out hf).1 hq
 |read bR i f h1 J hl I hf hh hq hr =>
  obtain⟨k1,k2,k3,k4,g,k5,k6,k7⟩:=(he.r_ I).1.out hf
  refine absurd ?_ hr
  rw[he.dk.aq] at J
  rw[Dk.lV,ak (by rw[k2.dk.alive];decide),ak (by rw[k2.dk.aq];exact not_not_intro ⟨h1,J⟩)]
 |bad bR i f h1 J hl I hf hh hq hr hc =>
  obtain⟨k1,k2,k3,k4,g,k5,k6,k7⟩:=(he.r_ I).1.out hf
  rw[he.dk.aq] at J
  exact absurd (k2.dk.good n h1 J) hc
 |load bR i f h1 J hl I hf hh hq hr hc =>
  obtain⟨n1,n2⟩:=he.r_ I
  have oO:vw P (bR,ε.2):=by show P (j8 bR) bR.br ε.2;rw[Jx I,I.br];exact hv
  have nL:=h.out (ε:=(bR,ε.2)) n1 hf oO
  grind[Q5,dF,outF,fA,jP,Oo]
theorem Q6 : j8 (unpinF π n).2=j8 π∧(unpinF π n).2.br=π.br:=by
 grind[unpinF,BH]
theorem mz.rd (h:mz N P)(I:my ε n e b af)(he:EC N ε)(hv:vw P ε): vw P af:=by
 cases I<;>grind[jj,Q6]
theorem mz.qF (h:mz N P)(I:GRd ε now false n e b af)(he:EC N ε)(hv:vw P ε): vw P af:=by
 cases I with
 |arg hn=>exact hv
 |cu _ _ ho=>cases ho
 |own b J h2 _ hl=>exact hv
 |read e b af J h2 _ hl I=>exact h.rd I he hv
theorem mz.y5 (h:mz N P)(I:om ε now false n b e bL af)(he:EC N ε)(hv:vw P ε): vw P af:=by
 cases I with
 |may e c af I _=>exact h.qF I he hv
 |bad c af I J=>exact h.qF I he hv
 |done c af I J=>exact h.qF I he hv
theorem mz.ch (h:mz N P)(I:ChR now l ε e cs af): EC N ε→fG ε→vw P ε→vw P af:=by
 induction I with
 |nil ε=>simp
 |err n l ε e b af I _=>exact fun he _ hv=>h.rd I he hv
 |part n l ε dX b af c e cs J I hb hd hc je ht ih=>exact fun he h3 hv=>ih (I.ec he h3.pins).1 (I.jk h3) (h.rd I he hv)
 |whole n l ε dX b af e cs J I hb hd ht ih=>exact fun he h3 hv=>ih (I.ec he h3.pins).1 (I.jk h3) (h.rd I he hv)
end
def pZ (k:Nat)(v:V)(cs:List V): aL:=.xs fun o:Option (Nat×Nat×Nat)=>match o with
 |none=>.pu ((v=.a_∨∃a,v=.sle a)∧cs=[])
 |some (id,len,cap)=>.an (.ro id (.cells cs.length cs true)) (.pu (v=.sl id 0 len (.exact cap)∧cs.length=len*k))
section
variable {v:V} {cs:List V}
theorem Sat.rowAt (s:Sat h S)(J:getA S j=some (pZ k v cs)): ((v=.a_∨∃a,v=.sle a)∧cs=[])∨∃id len cap,v=.sl id 0 len (.exact cap)∧cs.length=len*k∧T.get h.tr id=some (.cells cs.length cs true):=by
 obtain⟨m,r,h1,h2,o,I⟩:=s.at J
 cases o with
 |none=>exact .inl I
 |some x=>exact .inr ⟨x.1,x.2.1,x.2.2,I.2.1,I.2.2,h2 _ _ I.1⟩
theorem Sat.Ef {n:Nat}{e:TypeId}(s:Sat h S)(J:getA S j=some (pZ k v cs))(I:cs.length=n*k)(hk:1≤k)(hu:P.underlying t=some (.slice e)): lenV P h t v=some (.int .i64 n):=by
 rcases s.rowAt J with⟨hv,rfl⟩|⟨id,len,cap,rfl,hl,_⟩
 ·have:n=0:=by
   cases n with
   |zero=>rfl
   |succ n=>simp only[cG,rL,Nat.one_mul] at I;omega
  subst this
  rcases hv with rfl|⟨a,rfl⟩
  ·exact L5 hu
  ·simp only[lenV,hu];rfl
 ·have:n=len:=by
   rw[hl] at I
   exact(LI (by omega) I).symm
  subst this
  exact DE hu
theorem Sat.abA {e:TypeId}(s:Sat h S)(J:getA S j=some (pZ k v cs))(hi:i*k+k≤cs.length)(hk:1≤k)(hu:P.underlying t=some (.slice e))(I:bN P e=some k)(ha:isAggT P e=some true):
  ∃id off,indexAddrV P t v (.int .i64 (i:Int))=some (.ptr id off)∧loadV P h e (.ptr id off)=some (.agg ((cs.drop (i*k)).take k)):=by
 rcases s.rowAt J with⟨_,rfl⟩|⟨id,len,cap,rfl,hl,hg⟩
 ·simp at hi;omega
 ·refine⟨id,i*k,?_,ZI ha I hg rfl hi⟩
  simp only[indexAddrV,hu,I,dY]
  have:i<len:=by
   have h4:i*k+k=(i+1)*k:=by rw[rL,Nat.one_mul]
   rw[h4,hl] at hi
   exact ER (EB hi hk)
  rw[show(decide ((0:Int)≤(i:Int))&&decide ((i:Int)<(len:Int)))=true by simp;omega,aj]
  simp
end
def jG : List V→List (Int×List Nat)→aL
 |[],[]=>.pu True
 |a::v::l,x::m=>.an (.an (.pu (a=.int .i64 x.1)) (.bY v x.2)) (jG l m)
 |_,_=>.pu False
theorem aV.jG : ∀(m:List (Int×List Nat)) (l:List V),aV (Am.jG l m):=by
 intro m
 induction m with
 |nil=>intro l;rcases l with _|⟨a,_|⟨b,l⟩⟩<;>exact aV.pu _
 |cons x m I=>intro l;rcases l with _|⟨a,_|⟨b,l⟩⟩<;>first|exact aV.pu _|exact aV.an (aV.an (aV.pu _) (aV.bY _ _)) (I l)
theorem XL {a b:PM}: ∀ {m:List (Int×List Nat)} {l:List V},(jG l m).p a b→l.length=m.length*2:=by
 intro m
 induction m with
 |nil=>intro l h;rcases l with _|⟨x,_|⟨y,l⟩⟩<;>first|rfl|exact h.elim
 |cons x m I=>intro l h;rcases l with _|⟨x,_|⟨y,l⟩⟩<;>first|exact h.elim|(have:=I h.2;simp only[bF];omega)
theorem MB {a b:PM}: ∀ {m:List (Int×List Nat)} {l:List V} {i:Nat} {x:Int×List Nat},(jG l m).p a b→m[i]?=some x→∃u,(l.drop (i*2)).take 2=[.int .i64 x.1,u]∧(aL.bY u x.2).p a b:=by
 intro m
 induction m with
 |nil=>intro l i x h I;simp at I
 |cons y m J =>
  intro l i x h I
  rcases l with _|⟨p,_|⟨q,l⟩⟩
  ·exact h.elim
  ·exact h.elim
  ·cases i with
   |zero =>
    simp at I;subst I
    exact⟨q,by rw[show p=.int .i64 y.1 from h.1.1];rfl,h.1.2⟩
   |succ i =>
    rw[nh] at I
    obtain⟨u,h1,h2⟩:=J h.2 I
    exact⟨u,by rw[show(i+1)*2=i*2+2 by omega];exact h1,h2⟩
def tot : List (List Nat)→Nat
 |[]=>0
 |c::l=>c.length+tot l
theorem FL {a b:List (List Nat)}: tot (a++b)=tot a+tot b:=by
 induction a<;>grind[tot]
theorem ou : ∀ {cs:List (List Nat)} {i:Nat} {c:List Nat},cs[i]?=some c→tot (cs.take (i+1))=tot (cs.take i)+c.length:=by
 intro cs
 induction cs<;>grind[tot]
theorem Jy (h:i≤j): tot (cs.take i)≤tot (cs.take j):=by
 grind[List.take_append_drop,FL]
theorem pF : tot (cs.take i)≤tot cs:=by
 grind[FL,List.take_append_drop]
theorem XM : ∀ {cs:List (List Nat)} {i:Nat} {c c':List Nat},cs[i]?=some c→c'.length=c.length→∀k,tot ((cs.set i c').take k)=tot (cs.take k):=by
 intro cs
 induction cs with
 |nil=>simp
 |cons x cs I =>
  intro i c c' h J k
  cases i with
  |zero =>
   simp at h;subst h
   cases k<;>grind[tot]
  |succ i=>cases k<;>grind[tot]
theorem lB {m:List Nat}(h:a+m.length≤l.length)(hi:i<a∨a+m.length≤i): (bu l a m)[i]?=l[i]?:=by
 grind[yw]
theorem AM {m:List Nat}(h:a+m.length≤l.length)(hi:i<m.length): (bu l a m)[a+i]?=m[i]?:=by
 grind[yw]
theorem p9 {m:List Nat}(h:∀i,a≤i→i<a+z→l[i]?=m[i]?): dh l a z=dh m a z:=by
 unfold dh
 congr 1
 apply uc
 simp_all[EM]
theorem FN {m:List Nat}{b:Nat}(h:a+m.length≤l.length)(I:b+z≤a∨a+m.length≤b): dh (bu l a m) b z=dh l b z :=
 by grind[p9,lB]
theorem AN {n:Nat}(h:a+z≤l.length)(I:n<256^z): dh (bu l a (le z n)) a z=n:=by
 have e:((bu l a (le z n)).take (a+z)).drop a=le z n:=by
  apply uc
  simp only[List.getElem?_drop,EM]
  grind[AM,dL]
 grind[dh,sW,Nat.mod_eq_of_lt]
theorem qH {m:List Nat}(h:l[i]?=m[i]?): l.getD i 0=m.getD i 0:=by grind
structure dR (b:List Nat)(k link extra:Nat)(cs:List (List Nat)): Prop where
 len:b.length=512
 Q7:b.getD 13 0=0
 kind:b.getD 12 0=k
 link:dh b 18 4=link
 extra:dh b 22 4=extra
 cV:lI b=cs.length
 low:jC b+tot cs=512
 fits:26+4*cs.length+tot cs≤512
 slot:∀i c,cs[i]?=some c→dW b i+tot (cs.take (i+1))=512∧jK b i=c.length∧∀j,j<c.length→b[dW b i+j]?=c[j]?
theorem Ub : ∀(z k:Nat) (t:List Bool),k+z≤t.length→(∀j,k≤j→j<k+z→t.getD j false=false)→∃t',markL z k t=some t'∧t'.length=t.length∧∀j,(j<k∨k+z≤j)→t'.getD j false=t.getD j false:=by
 intro z
 induction z with
 |zero=>intro k t _ _;exact⟨t,rfl,rfl,fun _ _=>rfl⟩
 |succ z I =>
  intro k t J h2
  have hs:∀j,j≠k→(t.set k true).getD j false=t.getD j false:=fun j hj=>by
   grind
  obtain⟨t',e1,e2,e3⟩:=I (k+1) (t.set k true) (by grind) (fun j a b=>by grind)<;>grind[markL]
section
theorem dR.cells (h:dR b k link extra cs): ∀(n i:Nat) (t:List Bool),i+n=cs.length→t.length=512→(∀j,j+tot (cs.take i)<512→t.getD j false=false)→cellsL b (jC b) n i t=true:=by
 intro n
 induction n with
 |zero=>intro i t _ _ _;rfl
 |succ n J =>
  intro i t hi ht hf
  have I:cs[i]?=some (cs[i]'(by omega)):=bx _
  generalize (cs[i]'(by omega))=c at I
  obtain⟨s1,s2,s3⟩:=h.slot i c I
  have h1:=ou I
  have h2:=pF (cs:=cs) (i:=i+1)
  have h3:=h.low
  obtain⟨t',e1,e2,e3⟩:=Ub c.length (dW b i) t (by omega) (fun j _ _=>hf j (by omega))
  rw[cellsL,s2,ak (by omega),e1]
  exact J (i+1) t' (by omega) (by omega) (fun j hj=>by grind)
theorem dR.good (h:dR b k link extra cs): bW b=true:=by
 have I:=h.low
 have J:=h.fits
 rw[bW,gn h.len,gn h.Q7,gn (by rw[h.cV];omega),h.cells _ _ _ (by rw[h.cV];omega) fN fun j hj => ?_]
 ·rfl
 grind
theorem dR.tail (h:dR b k link extra cs){I:List Nat}(hl:I.length=512)(ht:I.drop 12=b.drop 12): dR I k link extra cs:=by
 have hg:∀i,12≤i→I[i]?=b[i]?:=fun i hi=>by
  have:=jm (fun l:List Nat=>l[i-12]?) ht
  grind
 have J:∀a z,12≤a→dh I a z=dh b a z:=fun a z q=>yx ht q
 refine⟨hl,?_,?_,?_,?_,?_,?_,h.fits,fun i c hc => ?_⟩
 ·rw[qH (hg 13 (by decide))];exact h.Q7
 ·rw[qH (hg 12 (by decide))];exact h.kind
 ·rw[J _ _ (by decide)];exact h.link
 ·rw[J _ _ (by decide)];exact h.extra
 ·rw[lI,J _ _ (by decide)];exact h.cV
 ·rw[jC,J _ _ (by decide)];exact h.low
 ·obtain⟨s1,s2,s3⟩:=h.slot i c hc
  have e1:dW I i=dW b i:=J _ _ (by omega)
  have e2:jK I i=jK b i:=J _ _ (by omega)
  have eX:=h.fits
  grind[pF]
def yy (k:Nat): List Nat:=bu ((List.replicate 512 0).set 12 k) 16 (le 2 512)
theorem dR.new : dR (yy k) k 0 0 []:=by
 have hle:∀n,(le 2 n).length=2:=fun n=>dL 2 n
 have I:∀i,i<16∨18≤i→(yy k)[i]?=((List.replicate 512 0).set 12 k)[i]?:=fun i hi=>lB (by grind) (by grind)
 have hz:∀i,i≠12→((List.replicate 512 0).set 12 k)[i]?=(List.replicate 512 0)[i]?:=fun i hi=>rI (by omega)
 have J:∀a z,a+z≤512→(18≤a∨(13≤a∧a+z≤16))→dh (yy k) a z=dh (List.replicate 512 0) a z:=fun a z h1 h2=>p9 fun i h3 h4=>by grind
 refine⟨by grind[yy,c9],?_,?_,?_,?_,?_,?_,by decide,fun i c hc=>(by grind)⟩
 ·rfl
 ·rfl
 ·rfl
 ·rfl
 ·rfl
 ·rfl
def vX (b:List Nat)(x y:Nat): List Nat:=bu (bu b 18 (le 4 x)) 22 (le 4 y)
theorem dR.set (h:dR b k link extra cs){x y:Nat}(hx:x<4294967296)(hy:y<4294967296): dR (vX b x y) k x y cs:=by
 have hlen:=h.len
 have hle:∀n,(le 4 n).length=4:=fun n=>dL 4 n
 have l1:(bu b 18 (le 4 x)).length=512:=by grind[c9]
 have l2:(vX b x y).length=512:=by grind[vX,c9]
 have I:∀i,i<18∨26≤i→(vX b x y)[i]?=b[i]?:=fun i hi=>by
  grind[vX,lB]
 have J:∀a z,a+z≤18∨26≤a→dh (vX b x y) a z=dh b a z:=fun a z h2=>p9 fun i h3 h4=>I i (by omega)
 refine⟨l2,?_,?_,?_,?_,?_,?_,h.fits,fun i c hc => ?_⟩
 ·rw[qH (I 13 (by decide))];exact h.Q7
 ·rw[qH (I 12 (by decide))];exact h.kind
 ·grind[vX,FN,AN]
 ·grind[vX,AN]
 ·rw[lI,J _ _ (by decide)];exact h.cV
 ·rw[jC,J _ _ (by decide)];exact h.low
 ·obtain⟨s1,s2,s3⟩:=h.slot i c hc
  have e1:dW (vX b x y) i=dW b i:=J _ _ (by omega)
  have e2:jK (vX b x y) i=jK b i:=J _ _ (by omega)
  have eX:=h.fits
  grind[pF]
def AO (b:List Nat)(i f z:Nat): List Nat:=bu (bu b (26+4*i) (le 2 f)) (26+4*i+2) (le 2 z)
section
variable {f:Nat}
theorem MC (I:b.length=512)(hi:30+4*i≤512): (AO b i f z).length=512:=by
 grind[dL,AO,c9]
theorem MD (I:b.length=512)(hi:30+4*i≤512)(J:j<26+4*i∨30+4*i≤j): (AO b i f z)[j]?=b[j]?:=by
 grind[dL,AO,lB,c9]
theorem Q8 (I:b.length=512)(hi:30+4*i≤512)(J:f<65536)(hz:z<65536): dW (AO b i f z) i=f∧jK (AO b i f z) i=z:=by
 grind[dL,c9,dW,AO,FN,AN,jK]
end
def yz (b:List Nat)(n lo:Nat)(c:List Nat): List Nat:=AO (bu (bu (bu b 14 (le 2 (n+1))) lo c) 16 (le 2 lo)) n lo c.length
theorem dR.ins (h:dR b k link extra cs){lo:Nat}(hf:26+4*(cs.length+1)+(tot cs+c.length)≤512)(va:lo+(tot cs+c.length)=512): dR (yz b cs.length lo c) k link extra (cs++[c]):=by
 have hlen:=h.len
 have hle:∀n,(le 2 n).length=2:=fun n=>dL 2 n
 have l1:(bu b 14 (le 2 (cs.length+1))).length=512:=by grind[c9]
 have l2:(bu (bu b 14 (le 2 (cs.length+1))) lo c).length=512:=by rw[c9 (by omega),l1]
 have l3:(bu (bu (bu b 14 (le 2 (cs.length+1))) lo c) 16 (le 2 lo)).length=512:=by grind[c9]
 have l4:(yz b cs.length lo c).length=512:=MC l3 (by omega)
 have o3:∀i,i<16∨18≤i→(bu (bu (bu b 14 (le 2 (cs.length+1))) lo c) 16 (le 2 lo))[i]?=(bu (bu b 14 (le 2 (cs.length+1))) lo c)[i]?:=fun i hi=>lB (by grind) (by grind)
 have o4:∀i,i<26+4*cs.length∨30+4*cs.length≤i→(yz b cs.length lo c)[i]?=(bu (bu (bu b 14 (le 2 (cs.length+1))) lo c) 16 (le 2 lo))[i]?:=fun i hi=>MD l3 (by omega) hi
 -- what is neither count, low, the slot nor the cell
 have I:∀i,(i<14∨18≤i)→(i<26+4*cs.length∨30+4*cs.length≤i)→(i<lo∨lo+c.length≤i)→(yz b cs.length lo c)[i]?=b[i]?:=fun i h1 h2 h3=>by
  grind[lB]
 have GL:∀a z,(a+z≤14∨18≤a)→a+z≤26+4*cs.length→dh (yz b cs.length lo c) a z=dh b a z:=fun a z h1 h2=>p9 fun i h3 h4=>I i (by omega) (by omega) (by omega)
 have kz:dW (yz b cs.length lo c) cs.length=lo∧jK (yz b cs.length lo c) cs.length=c.length:=Q8 l3 (by omega) (by omega) (by omega)
 have Z6:tot (cs++[c])=tot cs+c.length:=by rw[FL];simp[tot]
 refine⟨l4,?_,?_,?_,?_,?_,?_,by grind,fun i x J => ?_⟩
 ·rw[qH (I 13 (by omega) (by omega) (by omega))];exact h.Q7
 ·rw[qH (I 12 (by omega) (by omega) (by omega))];exact h.kind
 ·rw[GL _ _ (by omega) (by omega)];exact h.link
 ·rw[GL _ _ (by omega) (by omega)];exact h.extra
 ·have e:dh (yz b cs.length lo c) 14 2=dh (bu b 14 (le 2 (cs.length+1))) 14 2:=p9 fun i h1 h2=>by
   grind[lB]
  grind[lI,AN]
 ·have e:dh (yz b cs.length lo c) 16 2=dh (bu (bu (bu b 14 (le 2 (cs.length+1))) lo c) 16 (le 2 lo)) 16 2:=p9 fun i h1 h2=>o4 i (by omega)
  grind[jC,AN]
 ·by_cases hi:i<cs.length
  ·rw[tY hi] at J
   obtain⟨s1,s2,s3⟩:=h.slot i x J<;>grind[dW,jK,pF]
  ·have gW:i=cs.length:=by
    grind
   subst gW
   rw[rG (aU _),wE] at J
   have J:c=x:=cA J
   subst J
   rw[kz.1,kz.2,gj (by simp),Z6]
   exact⟨va,rfl,fun j hj=>by grind[AM]⟩
def yA (b:List Nat)(i f:Nat)(c:List Nat): List Nat:=AO (bu b f c) i f c.length
theorem dR.rep (h:dR b k link extra cs)(hc:cs[i]?=some c)(hl:c'.length=c.length): dR (yA b i (dW b i) c') k link extra (cs.set i c'):=by
 obtain⟨s1,s2,s3⟩:=h.slot i c hc
 have hlen:=h.len
 have hi:=(List.getElem?_eq_some_iff.1 hc).1
 have Ay:=h.low
 have eX:=h.fits
 have Ml:=pF (cs:=cs) (i:=i+1)
 have Q9:=ou hc
 have l1:(bu b (dW b i) c').length=512:=by grind[c9]
 have l2:(yA b i (dW b i) c').length=512:=MC l1 (by omega)
 have o2:∀j,j<26+4*i∨30+4*i≤j→(yA b i (dW b i) c')[j]?=(bu b (dW b i) c')[j]?:=fun j hj=>MD l1 (by omega) hj
 have I:∀j,(j<26+4*i∨30+4*i≤j)→(j<dW b i∨dW b i+c.length≤j)→(yA b i (dW b i) c')[j]?=b[j]?:=fun j h1 h2=>by grind[lB]
 have J:∀a z,(a+z≤26+4*i∨30+4*i≤a)→a+z≤26+4*cs.length→dh (yA b i (dW b i) c') a z=dh b a z:=fun a z h1 h2=>p9 fun j h3 h4=>I j (by omega) (by omega)
 have kz:dW (yA b i (dW b i) c') i=dW b i∧jK (yA b i (dW b i) c') i=c'.length:=Q8 l1 (by omega) (by omega) (by omega)
 have vl:∀k,tot ((cs.set i c').take k)=tot (cs.take k):=XM hc hl
 have Z6:tot (cs.set i c')=tot cs:=by
  have:=vl cs.length
  grind[List.length_set]
 refine⟨l2,?_,?_,?_,?_,?_,?_,by grind,fun j x hx => ?_⟩
 ·rw[qH (I 13 (by omega) (by omega))];exact h.Q7
 ·rw[qH (I 12 (by omega) (by omega))];exact h.kind
 ·rw[J _ _ (by omega) (by omega)];exact h.link
 ·rw[J _ _ (by omega) (by omega)];exact h.extra
 ·rw[lI,J _ _ (by omega) (by omega),dJ];exact h.cV
 ·grind[jC]
 ·rw[vl]
  by_cases yU:i=j
  ·subst yU
   rw[kM hi] at hx
   have hx:c'=x:=cA hx
   subst hx
   rw[kz.1,kz.2]
   exact⟨s1,rfl,fun q hq=>by rw[o2 _ (by omega),AM (by omega) hq]⟩
  ·rw[rI yU] at hx
   obtain⟨r1,r2,r3⟩:=h.slot j x hx
   have hj:=(List.getElem?_eq_some_iff.1 hx).1
   have e1:dW (yA b i (dW b i) c') j=dW b j:=J _ _ (by omega) (by omega)
   have e2:jK (yA b i (dW b i) c') j=jK b j:=J _ _ (by omega) (by omega)
   have VT:=ou hx
   have htj:=pF (cs:=cs) (i:=j+1)
   rw[e1,e2]
   refine⟨r1,r2,fun q hq => ?_⟩
   rw[I _ (by omega) ?_]
   ·grind
   ·rcases Nat.lt_or_gt_of_ne yU with q1|q1
    ·have:=Jy (cs:=cs) (i:=i+1) (j:=j) (by omega);omega
    ·have:=Jy (cs:=cs) (i:=j+1) (j:=i) (by omega);omega
theorem dR.cell (h:dR b k link extra cs)(I:cs[i]?=some c): (b.drop (dW b i)).take c.length=c:=by
 obtain⟨s1,s2,J⟩:=h.slot i c I
 apply uc
 grind
end
section
variable {v w:V} {m:List Nat}
theorem Jz {n b:Nat}{cap:Cap}(oY:a≤b)(hb:b≤n): ∃off I,slR (.sl id 0 n cap) a b=.sl id off (b-a) I∧off≤n:=by
 cases cap with
 |exact c =>
  simp only[slR]
  by_cases J:c=a
  ·rw[oS J,aj];exact⟨0,_,rfl,fe _⟩
  ·rw[eo J,aY];exact⟨0+a*1,_,rfl,by omega⟩
 |rest e alt=>exact⟨0+a*1,_,rfl,by omega⟩
theorem ME {n:Nat}{cs:List V}(I:T.get h.tr id=some (.cells n cs false))(ho:off≤n)(hl:cs.length=n): wrN h id off []=some (h.put id (some (.cells n cs false))):=by
 simp only[wrN,I,cG]
 rw[bg.2 (by omega),aj]
 congr 3
 cases J:(Nat.beq off 0&&Nat.beq 0 n) with
 |true =>
  simp only[bQ,beq_iff] at J
  rw[aj]
  rw[nf (by omega:cs.length=0)]
 |false=>rw[aY,ey,nu,wg]
theorem Q_ (s:Sat h (aQ v l::X::S))(hX:cL X (cQ w m)){b:Nat}(oY:a≤b)(hb:b≤l.length)(hl:1≤l.length):
  ∃h',copyV Tryz.prog h 28 (slR v a b) w=some (.int .i64 (min m.length (b-a):Nat),h')∧Sat h' (aQ v (bu l a (m.take (b-a)))::X::S):=by
 by_cases h1:a<b∧1≤m.length
 ·exact CA s hX h1.1 hb h1.2
 ·have hm:min m.length (b-a)=0:=by omega
  have ht:m.take (b-a)=[]:=nf (by rw[fO];omega)
  have JA:bu l a (m.take (b-a))=l:=by rw[ht,bu];simp
  have hw:=(s.aD (k:=1) rfl hX).2
  have hv:=(s.buf (k:=0) rfl).view
  obtain⟨id,c,cap,rest,rfl,s1,hc,hf⟩:=s.gq hl
  obtain⟨off,SI,e1,e2⟩:=Jz (id:=id) (cap:=cap) oY hb
  rw[e1,JA,hm]
  have hg:=s1.row (k:=0) rfl
  have vx:=ME (off:=off) hg (by omega) (by rw[bV,dV];exact hc)
  have J:Sat (h.put id (some (.cells c (ofBytes l++rest) false))) (aQ (.sl id 0 l.length cap) l::X::S):=hf _ _ rfl hv.1 (s1.put (k:=0) rfl)
  rcases hw with⟨rfl|⟨x,rfl⟩,_⟩|⟨kF,I,IM,n2,Gr,ZH,rfl,DM,q1,q2,q3,q4⟩
  ·exact⟨h,by simp only[copyV,aK,eC];rfl,s⟩
  ·exact⟨h,by simp only[copyV,aK,eC];rfl,s⟩
  ·refine⟨_,?_,J⟩
   have hr:rdN h kF I 0=some []:=by
    simp only[rdN,DM,nu]
    rw[bg.2 (by omega),aj]
    cases hq:(Nat.beq I 0&&Nat.beq 0 n2) with
    |true =>
     simp only[bQ,beq_iff] at hq
     rw[aj,nf (by omega:Gr.length=0)]
    |false=>rw[aY,wC]
   simp only[copyV,aK,eC]
   rw[show Nat.min m.length (b-a)=0 from hm,uf,hr]
   simp only
   rw[vx]
theorem Ra (s:Sat h (aQ v l::S)){b:Nat}(ha:a≤l.length)(hb:b≤l.length)(hl:1≤l.length):
  ∃h',copyV Tryz.prog h 28 (slR v a a) (slR v b b)=some (.int .i64 0,h')∧Sat h' (aQ v l::S):=by
 have hv:=(s.buf (k:=0) rfl).view
 obtain⟨id,c,cap,rest,rfl,s1,hc,hf⟩:=s.gq hl
 obtain⟨off,SI,e1,e2⟩:=Jz (id:=id) (cap:=cap) (aU _) ha
 obtain⟨I,IM,e3,e4⟩:=Jz (id:=id) (cap:=cap) (aU _) hb
 rw[e1,e3]
 have hg:=s1.row (k:=0) rfl
 have hle:(ofBytes l++rest).length=c:=by rw[bV,dV];exact hc
 have J:=ME (off:=off) hg (by omega) hle
 refine⟨_,?_,hf _ _ rfl hv.1 (s1.put (k:=0) rfl)⟩
 have hr:rdN h id I 0=some []:=by
  simp only[rdN,hg,nu]
  rw[bg.2 (by omega),aj]
  cases hq:(Nat.beq I 0&&Nat.beq 0 c) with
  |true =>
   simp only[bQ,beq_iff] at hq
   rw[aj,nf (by omega:(ofBytes l++rest).length=0)]
  |false=>rw[aY,wC]
 simp only[copyV,aK,eC,wE]
 rw[show Nat.min 0 0=0 from rfl,uf,hr]
 simp only
 rw[J]
 rfl
end
section
variable {o:Oper} {v:V} {m:List Nat}
theorem OpR.VU {b:Nat}(hP:C.P=Tryz.prog)(s:Sat h (aQ v l::X::S))(hX:cL X (cQ u m))(I:o.op=.call cl)(hc:cl.callee=.builtin .copy)(J:cl.argTypes = #[28,28])(ha:lookArgs E cl.args.toList=some [slR v a b,u])
 (oY:a≤b)(hb:b≤l.length)(hl:1≤l.length): OpR C E h o fun _ h₁=>Sat h₁ (aQ v (bu l a (m.take (b-a)))::X::S):=by
 obtain⟨h₁,e1,e2⟩:=Q_ s hX oY hb hl
 refine OpR.builtin I hc ha ⟨.int .i64 (min m.length (b-a):Nat),h₁,?_,e2⟩
 simp only[builtinV,hP,J,e1]
theorem OpR.abB {b:Nat}(hP:C.P=Tryz.prog)(s:Sat h (aQ v l::S))(I:o.op=.call cl)(hc:cl.callee=.builtin .copy)(J:cl.argTypes = #[28,28])(hx:lookArgs E cl.args.toList=some [slR v a a,slR v b b])
 (ha:a≤l.length)(hb:b≤l.length)(hl:1≤l.length): OpR C E h o fun _ h₁=>Sat h₁ (aQ v l::S):=by
 obtain⟨h₁,e1,e2⟩:=Ra s ha hb hl
 refine OpR.builtin I hc hx ⟨.int .i64 0,h₁,?_,e2⟩
 simp only[builtinV,hP,J,e1]
end
section
variable {told:cR} {v:V} {kd:Nat}
theorem Eg (I:W told){f:Nat}(s:Sat h (aQ v b::S))(hl:b.length=512)(hi:30+4*i≤512)(hf:f<65536)(hz:z<65536):
  Call ⟨Tryz.prog,told⟩ 158 [.agg [v],.int .i64 (i:Int),.int .i64 (f:Int),.int .i64 (z:Int)] h fun r h'=>r=.bf []∧Sat h' (aQ v (AO b i f z)::S):=by
 have hle:∀n,(le 2 n).length=2:=fun n=>dL 2 n
 have l1:(bu b (26+4*i) (le 2 f)).length=512:=by rw[c9 (by rw[hle];omega),hl]
 obtain⟨lq,_,cap,_,rfl,_⟩:=s.gq (by omega)
 have J:(26:Int)+4*(i:Int)=((26+4*i:Nat):Int):=by omega
 have e2:(26:Int)+4*(i:Int)+2=((26+4*i+2:Nat):Int):=by omega
 refine Call.of_wp (I.free _ rfl) Tryz.func158 rfl rfl (zg rfl ?_)
 refine ax.cm s rfl rfl rfl (fY rfl rfl) (fun p4 h s => ?_)
 refine zk 4 rfl (zb rfl (by exact kJ (aB (by omega) (by omega))) ?_)
 refine zb rfl (by exact bC (aB (by omega) (by omega))) ?_
 refine zk 4 rfl (zl rfl (s.dn (k:=0) rfl cO bS) (zk 2 rfl (zo rfl (cJ rfl (by exact jE bT c_ (fZ (by omega) (by omega)))) ?_)))
 rw[J]
 refine zc rfl (qY (a:=26+4*i) (z:=2) (n:=f) I (s.ae [1]) (by decide) (by decide) (by omega) (by omega)) ?_
 rintro r h ⟨rfl,s⟩
 have s:=s.ae [1,0]
 refine zk 2 rfl (zl rfl (s.dn (k:=0) rfl cO bS) (zm rfl (zo rfl (aA (r:=.int .i64 ((26+4*i+2:Nat):Int)) rfl rfl (by rw[←e2,←J];exact bC (aB (by omega) (by omega)))) ?_)))
 refine zm rfl (zo rfl (cJ rfl (by exact jE bT c_ (fZ (by omega) (by omega)))) ?_)
 refine zc rfl (qY (a:=26+4*i+2) (z:=2) (n:=z) I (s.ae [1]) (by decide) (by decide) (by omega) (by omega)) ?_
 rintro r h ⟨rfl,s⟩
 exact zv ⟨aa,_,rfl,rfl,s.del 1⟩
theorem FO (hT:W told)(s:Sat h S)(hk:getA S k=some X)(hX:cL X (cQ v b))(J:dR b kd link extra cs)(hc:cs[i]?=some c):
  Call ⟨Tryz.prog,told⟩ 157 [.agg [v],.int .i64 (i:Int)] h fun r h'=>∃f,r=slR3 v f (f+c.length) (f+c.length)∧cL X (cQ r c)∧Sat h' S:=by
 have hv:=s.aD hk hX
 have hl:=J.len
 have hi:=(List.getElem?_eq_some_iff.1 hc).1
 have eX:=J.fits
 have Ay:=J.low
 obtain⟨s1,s2,s3⟩:=J.slot i c hc
 have Ml:=pF (cs:=cs) (i:=i+1)
 have Q9:=ou hc
 have I:=J.cell hc
 generalize hf:dW b i=f at s1 s3 I
 obtain⟨pi,po,pc,rfl⟩:=iY hv (by omega)
 refine Call.of_wp (hT.free _ rfl) Tryz.func157 rfl rfl (zg rfl ?_)
 refine ax.cm s rfl rfl rfl (fY rfl rfl) (fun p2 h s => ?_)
 refine zk 4 rfl (zl rfl (s.dn (k:=0) rfl cO bS) (zm rfl (zc rfl (BF hT s (nA hk) hX hl (by omega)) ?_)))
 rintro r h' ⟨rfl,s⟩
 rw[hf,s2]
 refine zk 8 rfl (zY s 0 iI bE rfl (zk 3 rfl (zb rfl (by exact bC (aB (by omega) (by omega))) ?_)))
 refine zk 2 rfl (zb rfl (by exact bC (aB (by omega) (by omega))) ?_)
 have e1:(f:Int)+(c.length:Int)=((f+c.length:Nat):Int):=by omega
 have kz:=B6 (s.aD (nA hk) hX) (a:=f) (b:=f+c.length) (c:=f+c.length) (by omega) (aU _) (by omega) (by omega)
 rw[e1]
 refine zo rfl (cH (p:=some (.int .i64 (f:Int))) (q:=some (.int .i64 ((f+c.length:Nat):Int))) (m:=some (.int .i64 ((f+c.length:Nat):Int))) (p':=some f) (q':=some (f+c.length)) (m':=some (f+c.length)) rfl rfl rfl rfl (by rw[fT (by omega)];rfl) (by rw[fT (by omega)];rfl) (by rw[fT (by omega)];rfl) kz) ?_
 refine zk 2 rfl (WP.ret ⟨aa,_,rfl,?_⟩)
 refine⟨f,rfl,?_,s.drop⟩
 have:=Gt hX (a:=f) (b:=f+c.length) (c:=f+c.length) (by omega) (aU _) (by omega) (by omega)
 rw[E5,show f+c.length-f=c.length by omega,I] at this
 exact this
theorem XN (J:W told)(s:Sat h S)(hk:getA S k=some X)(hX:cL X (cQ v b))(I:dR b kd link extra cs):
  Call ⟨Tryz.prog,told⟩ 103 [.agg [v]] h fun r h'=>r=.int .i64 (486-(4*(cs.length:Int)+(tot cs:Int)))∧Sat h' S:=by
 have hv:=s.aD hk hX
 have hl:=I.len
 have eX:=I.fits
 have Ay:=I.low
 obtain⟨pi,po,pc,rfl⟩:=iY hv (by omega)
 refine Call.of_wp (J.free _ rfl) Tryz.func103 rfl rfl (zg rfl ?_)
 refine ax.cm s rfl rfl rfl (fY rfl rfl) (fun p1 h s => ?_)
 refine zk 3 rfl ?_
 have s0:=s
 refine WP.drawn [none,none,some (1,2),some (0,2),ah,ah,ah,ah] rfl (by kernel_rfl) (by kernel_rfl) ?_
 refine zL rfl (s.dn (k:=0) rfl cO bS) (ay.any rfl rfl rfl rfl (OpR.call rfl rfl rfl rfl (I0 J s (nA hk) hX hl)) ?_)
 rintro r h' ⟨rfl,s⟩
 have s1:=s
 refine zO rfl (aA rfl rfl (by exact iM (aB (by omega) (by omega)))) ?_
 refine zL rfl (s.dn (k:=0) rfl cO bS) (ay.any rfl rfl rfl rfl (OpR.call rfl rfl rfl rfl (lJ J s (nA hk) hX hl)) ?_)
 rintro r h' ⟨rfl,s⟩
 rw[I.cV]
 refine zO rfl (aA rfl rfl (by exact kJ (aB (by omega) (by omega)))) ?_
 refine zO rfl (aA rfl rfl (by exact iM (aB (by omega) (by omega)))) ?_
 refine zA rfl ?_
 refine ay.nil ⟨⟨aa,aa,fun _ _=>.inr ⟨rfl,⟨_,aA rfl rfl (by exact iM (aB (by omega) (by omega)))⟩,bH _ rfl⟩,eE (.inr ⟨rfl,⟨_,aZ rfl (s0.dn (k:=0) rfl cO bS)⟩,bH _ rfl⟩) (.inr ⟨rfl,⟨_,aZ rfl (s1.dn (k:=0) rfl cO bS)⟩,bH _ rfl⟩),aa,aa,aa,aa,aa⟩,?_⟩
 refine WP.ret ⟨aa,_,rfl,?_⟩
 exact⟨jm (V.int .i64) (by omega),s.drop⟩
noncomputable def pfL : Code:=cN [1,1,0,1,0,0] ((Tryz.f102.body).getD .skip)
theorem Oq (hT:W told){p1:Nat}(hX:cL X (cQ x b))(yW:x.cells=[x])(J:dR b kd link extra cs): ∀(m i:Nat) (h:H) (E:List (Nat×V)) (Q:Ex→List (Nat×V)→H→Prop),i+m=cs.length →
  Sat h (pt p1 (.cells 1 [x] false)::X::S)→Has E [(1,.ptr p1 0),(3,.int .i64 (486-(4*(cs.length:Int)+(tot (cs.take i):Int)))),(12,.int .i64 (cs.length:Int)),(13,.int .i64 (i:Int))] →
  (∀E' h',Has E' [(3,.int .i64 (486-(4*(cs.length:Int)+(tot cs:Int))))]→Sat h' (pt p1 (.cells 1 [x] false)::X::S)→Q (.exit 0) E' h')→WP ⟨Tryz.prog,told⟩ 27 (.loop pfL) E h Q:=by
 have hl:=J.len
 have eX:=J.fits
 intro m
 induction m with
 |zero =>
  intro i h E Q hi s hE hq
  refine WP.loop (WP.has hE (zg rfl (zC rfl bh (by simp<;>omega) ?_)))
  refine zk 3 rfl (WP.exit ?_)
  refine hq _ _ ⟨?_,aa⟩ s
  rw[show cs.take i=cs from gj (by omega)]
  rfl
 |succ m ih =>
  intro i h E Q hi s hE hq
  have I:cs[i]?=some (cs[i]'(by omega)):=bx _
  generalize (cs[i]'(by omega))=c at I
  obtain⟨s1,s2,s3⟩:=J.slot i c I
  have Ml:=pF (cs:=cs) (i:=i+1)
  have Q9:=ou I
  refine WP.loop (WP.has hE (zg rfl (zB rfl bh (by simp<;>omega) ?_)))
  refine zk 5 rfl (WP.block (zK 7 rfl (zl rfl (s.dn (k:=0) rfl cO bS) (zm rfl (zc rfl (BF hT (i:=i) s (k:=1) rfl hX hl (by omega)) ?_)))))
  rintro r h' ⟨rfl,s⟩
  rw[s2]
  refine zk 9 rfl (zb rfl (by exact iM (aB (by omega) (by omega))) ?_)
  refine za rfl (zv (zr rfl (zb rfl (by exact bC (aB (by omega) (by omega))) ?_)))
  refine zm rfl (zv ?_)
  refine ih (i+1) _ _ Q (by omega) s ⟨rfl,?_,rfl,rfl,aa⟩ hq
  exact jm (fun z=>some (V.int .i64 z)) (by omega)
theorem Uc (J:W told)(s:Sat h (X::S))(hX:cL X (cQ v b))(I:dR b kd link extra cs):
  Call ⟨Tryz.prog,told⟩ 102 [.agg [v]] h fun r h'=>r=.int .i64 (486-(4*(cs.length:Int)+(tot cs:Int)))∧Sat h' (X::S):=by
 have hv:=s.aD (k:=0) rfl hX
 have hl:=I.len
 have eX:=I.fits
 obtain⟨pi,po,pc,rfl⟩:=iY hv (by omega)
 refine Call.of_wp (J.free _ rfl) Tryz.func102 rfl rfl (zg rfl ?_)
 refine ax.cm s rfl rfl rfl (fY rfl rfl) (fun p1 h s => ?_)
 refine zk 4 rfl (zl rfl (s.dn (k:=0) rfl cO bS) (zc rfl (lJ J s (k:=1) rfl hX hl) ?_))
 rintro r h' ⟨rfl,s⟩
 rw[I.cV]
 refine zb rfl (by exact kJ (aB (by omega) (by omega))) ?_
 refine zb rfl (by exact iM (aB (by omega) (by omega))) ?_
 refine zk 5 rfl (zl rfl (s.dn (k:=0) rfl cO bS) (zc rfl (lJ J s (k:=1) rfl hX hl) ?_))
 rintro r h' ⟨rfl,s⟩
 rw[I.cV]
 refine zk 2 rfl (WP.block ?_)
 refine Oq J hX rfl I cs.length 0 _ _ _ (by omega) s ⟨rfl,?_,rfl,rfl,aa⟩ (fun E' h' hE s' => ?_)
 ·exact jm (fun z=>some (V.int .i64 z)) (by have:tot (cs.take 0)=0:=rfl;omega)
 have s:=s'
 exact WP.has hE (zK 5 rfl (WP.ret ⟨aa,_,rfl,rfl,s.del 0⟩))
theorem Ud (I:W told){lo:Nat}(s:Sat h (aQ v b::X::S))(J:cL X (cQ x c))(hl:b.length=512)(hi:30+4*i≤512)(va:jC b=lo+c.length)(aen:lo+c.length≤512):
  Call ⟨Tryz.prog,told⟩ 105 [.agg [v],.int .i64 (i:Int),x] h fun r h'=>r=.bf []∧Sat h' (aQ v (AO (bu (bu b lo c) 16 (le 2 lo)) i lo c.length)::X::S):=by
 have hle:∀n,(le 2 n).length=2:=fun n=>dL 2 n
 have l1:(bu b lo c).length=512:=by rw[c9 (by omega),hl]
 have l2:(bu (bu b lo c) 16 (le 2 lo)).length=512:=by rw[c9 (by rw[hle];omega),l1]
 obtain⟨lq,_,cap,_,rfl,_⟩:=s.gq (by omega)
 have hxv:=s.aD (k:=1) rfl J
 have hx:=hxv.cells
 refine Call.of_wp (I.free _ rfl) Tryz.func105 rfl rfl (zg rfl ?_)
 refine ax.cm s rfl rfl rfl (fY rfl rfl) (fun p3 h s => ?_)
 refine zk 3 rfl (zl rfl (s.dn (k:=0) rfl cO bS) (zc rfl (I0 I s (k:=1) rfl (bk _ _) hl) ?_))
 rintro r h' ⟨rfl,s⟩
 rw[va]
 refine zm rfl (zo rfl (aN rfl rfl rfl (aW aK (s.aD (k:=2) rfl J))) (zo rfl (aA (r:=.int .i64 (lo:Int)) rfl rfl (by rw[show((lo:Nat):Int)=((lo+c.length:Nat):Int)-(c.length:Int) by omega];exact iM (aB (by omega) (by omega)))) ?_))
 refine zk 4 rfl (zY s 0 iI bE rfl (zm rfl ?_))
 have kz:=fu (s.aD (k:=1) rfl (bk _ _)) (a:=lo) (by omega)
 refine zo rfl (cH (p:=some (.int .i64 (lo:Int))) (q:=none) (m:=none) (p':=some lo) (q':=none) (m':=none) rfl rfl rfl rfl (by rw[fT (by omega)];rfl) rfl rfl kz.1) ?_
 refine zm rfl (ax.any rfl rfl rfl (OpR.VU rfl (s.ae [1,1]) J rfl rfl rfl rfl (by omega) (aU _) (by omega)) ?_)
 intro r h s
 rw[gj (by omega)] at s
 have s:=s.ae [2,0,0]
 refine zk 3 rfl (zl rfl (s.dn (k:=0) rfl cO bS) (zm rfl (zo rfl (cJ rfl (by exact jE bT c_ (fZ (by omega) (by omega)))) ?_)))
 refine zc rfl (qY (a:=16) (z:=2) (n:=lo) I (s.ae [1]) (by decide) (by decide) (by omega) (by omega)) ?_
 rintro r h ⟨rfl,s⟩
 have s:=s.ae [1,0,0]
 refine zk 2 rfl (zl rfl (s.dn (k:=0) rfl cO bS) (zk 3 rfl (zo rfl (aN rfl rfl rfl (aW aK (s.aD (k:=2) rfl J))) (zc rfl (Eg (i:=i) (f:=lo) (z:=c.length) I (s.ae [1]) l2 hi (by omega) (by omega)) ?_))))
 rintro r h ⟨rfl,s⟩
 exact zv ⟨aa,_,rfl,rfl,s.del 1⟩
end
section
variable {told:cR} {v:V} {kd:Nat}
theorem GU (J:W told)(s:Sat h S)(VV:kd≤255):
  Call ⟨Tryz.prog,told⟩ 46 [.int .i64 (kd:Int)] h fun r h'=>∃u,r=.bf [u,.int .i64 0]∧Sat h' (aQ u (yy kd)::S):=by
 refine Call.of_wp (J.free _ rfl) Tryz.func46 rfl rfl (zK 9 rfl (zC rfl bh (by simp) ?_))
 refine zk 2 rfl (zC rfl gA (by simp;omega) ?_)
 refine zk 6 rfl (ax.any rfl rfl rfl (OpR.gQ rfl s rfl rfl rfl rfl (by decide)) ?_)
 intro u h s
 have hl:(List.replicate 512 0).length=512:=fN
 have hn:yy kd=bu ((List.replicate 512 0).set 12 kd) 16 (le 2 512):=rfl
 generalize List.replicate 512 0=l at hl hn s
 obtain⟨lq,_,cap,_,rfl,_⟩:=s.gq (by omega)
 refine zo rfl (cT rfl (by rw[Bz];rfl)) ?_
 refine ax.cm s rfl rfl rfl (b6 jU) (fun p4 h s => ?_)
 refine zS rfl (s.fS (j:=0) rfl bS rfl rfl) (fun h s => ?_)
 refine zk 3 rfl (zY s 0 iI bE rfl (zm rfl (zo rfl (cJ rfl (by exact jE bT Tryz.underlying5 (DF (by omega) (by omega)))) ?_)))
 have s:=s.ae [1,0]
 obtain⟨kF,I,e3,h2,e4,s2⟩:=nE s (i:=12) (b:=kd) (by omega) (by omega)
 have iW:(l.set 12 kd).length=512:=by rw[dJ,hl]
 refine zo rfl (cK (r:=.ptr kF I) rfl rfl e3) (zS rfl (⟨h2,e4,s2⟩) ?_)
 rintro h s
 have s:=s.ae [1,0]
 refine zk 3 rfl (zl rfl (s.dn (k:=0) rfl cO bS) (zc rfl (qY (a:=16) (z:=2) (n:=512) J (s.ae [1]) (by decide) (by decide) (by omega) (by omega)) ?_))
 rintro r h ⟨rfl,s⟩
 have s:=s.ae [1,0]
 refine zk 3 rfl (zY s 0 iI bE rfl (zk 3 rfl (WP.ret ⟨aa,_,rfl,?_⟩)))
 refine⟨_,rfl,?_⟩
 rw[hn]
 exact s.drop
theorem JB (J:W told)(s:Sat h S)(I:kd≤255):
  Call ⟨Tryz.prog,told⟩ 46 [.int .i64 (kd:Int)] h fun r h'=>∃u b,r=.bf [u,.int .i64 0]∧dR b kd 0 0 []∧Sat h' (aQ u b::S) :=
 (GU J s I).mono fun r h' ⟨u,e,s⟩=>⟨u,_,e,dR.new (k:=kd),s⟩
theorem MF (I:W told){lk ex:Nat}(s:Sat h (X::S))(hX:cL X (cQ v b))(J:dR b kd link extra cs)(Eh:lk<4294967296)(hex:ex<4294967296):
  Call ⟨Tryz.prog,told⟩ 47 [v,.int .i64 (lk:Int),.int .i64 (ex:Int)] h fun r h'=>∃u b',r=.bf [u,.int .i64 0]∧dR b' kd lk ex cs∧Sat h' (aQ u b'::X::S):=by
 have hl:=J.len
 have hle:∀n,(le 4 n).length=4:=fun n=>dL 4 n
 have l1:(bu b 18 (le 4 lk)).length=512:=by rw[c9 (by rw[hle];omega),hl]
 refine Call.of_wp (I.free _ rfl) Tryz.func47 rfl rfl (zK 8 rfl (zc rfl (vy I s hX (by omega)) ?_))
 rintro r h' (⟨hg,u,rfl,s⟩|⟨hg,rfl,s⟩)
 ·obtain⟨lq,_,cap,_,rfl,_⟩:=s.gq (by omega)
  refine zk 3 rfl ?_
  refine ax.cm s rfl rfl rfl (b6 jU) (fun p8 h s => ?_)
  dsimp only[V.cells,List.length_cons,List.length_nil,Nat.reduceAdd] at s
  refine zS rfl (s.fS (j:=0) rfl bS rfl rfl) (fun h s => ?_)
  dsimp only[setA] at s
  refine zk 3 rfl (WP.block (zK 3 rfl (zC rfl aE (rfl) (zk 6 rfl (zC rfl bh (by simp) ?_)))))
  refine zk 2 rfl (zC rfl gA (by simp;omega) ?_)
  refine zk 3 rfl (zC rfl bh (by simp) ?_)
  refine zk 3 rfl (zC rfl gA (by simp;omega) ?_)
  refine zk 2 rfl (zv (zj rfl (WP.skip (zg rfl (zl rfl (by exact s.dn (k:=0) rfl cO bS) ?_)))))
  refine zm rfl (zo rfl (cJ rfl (by exact jE bT c_ (fZ (by omega) (by omega)))) ?_)
  refine zc rfl (qY (a:=18) (z:=4) (n:=lk) I (s.ae [1]) (by decide) (by decide) (by omega) (by omega)) ?_
  rintro r h' ⟨rfl,s⟩
  have s:=s.ae [1,0]
  refine zk 3 rfl (zl rfl (s.dn (k:=0) rfl cO bS) (zm rfl (zo rfl (cJ rfl (by exact jE bT c_ (fZ (by omega) (by omega)))) ?_)))
  refine zc rfl (qY (a:=22) (z:=4) (n:=ex) I (s.ae [1]) (by decide) (by decide) (by omega) (by omega)) ?_
  rintro r h' ⟨rfl,s⟩
  have s:=s.ae [1,0]
  exact zk 3 rfl (zY s 0 iI bE rfl (zk 3 rfl (WP.ret ⟨aa,_,rfl,_,_,rfl,J.set Eh hex,s.drop⟩)))
 ·rw[J.good] at hg;cases hg
theorem AP (J:W told)(s:Sat h (X::S))(I:cL X (cQ v l))(hl:l.length<1073741824):
  Call ⟨Tryz.prog,told⟩ 160 [v] h fun r h'=>Sat h' (aQ r l::X::S):=by
 have hv:=s.aD (k:=0) rfl I
 refine Call.of_wp (J.free _ rfl) Tryz.func160 rfl rfl (zK 7 rfl (zo rfl (aN rfl rfl rfl (aW aK (s.aD (k:=0) rfl I))) (ax.any rfl rfl rfl (OpR.sJ rfl s rfl rfl rfl rfl (by omega)) ?_)))
 intro u h s
 refine zm rfl (ax.any rfl rfl rfl (OpR.pQ rfl s I rfl rfl rfl rfl (by simp;omega)) ?_)
 intro u2 h s
 rw[ey] at s
 exact zk 2 rfl (WP.ret ⟨aa,_,rfl,s⟩)
theorem JC (I:W told)(s:Sat h (X::S))(hX:cL X (cQ v b))(J:dR b kd link extra cs)(hc:cs[i]?=some c):
  Call ⟨Tryz.prog,told⟩ 111 [v,.int .i64 (i:Int)] h fun r h'=>∃u,r=.bf [u,.int .i64 0]∧Sat h' (aQ u c::X::S):=by
 have hl:=J.len
 have hv:=s.aD (k:=0) rfl hX
 have hi:=(List.getElem?_eq_some_iff.1 hc).1
 have eX:=J.fits
 have Ml:=pF (cs:=cs) (i:=i+1)
 have Q9:=ou hc
 obtain⟨pi,po,pc,rfl⟩:=iY hv (by omega)
 refine Call.of_wp (I.free _ rfl) Tryz.func111 rfl rfl (zK 8 rfl (zc rfl (sK I s hX (by omega)) ?_))
 rintro r h' ⟨s,(⟨hg,rfl⟩|⟨hg,rfl⟩)⟩
 ·refine ax.op rfl rfl rfl (bK rfl) ?_
  refine zk 2 rfl ?_
  refine ax.cm s rfl rfl rfl (b6 jU) (fun p6 h s => ?_)
  dsimp only[V.cells,List.length_cons,List.length_nil,Nat.reduceAdd] at s
  refine zS rfl (s.fS (j:=0) rfl bS rfl rfl) (fun h s => ?_)
  dsimp only[setA] at s
  refine zk 3 rfl (WP.block (zK 3 rfl (zC rfl aE (rfl) (zk 6 rfl (zC rfl bh (by simp) ?_)))))
  refine zk 2 rfl (zl rfl (s.dn (k:=0) rfl cO bS) (zc rfl (lJ I s (k:=1) rfl hX hl) ?_))
  rintro r h' ⟨rfl,s⟩
  rw[J.cV]
  refine zC rfl oa (by simp;omega) ?_
  refine zk 2 rfl (zv (zj rfl (WP.skip (zg rfl (zl rfl (by exact s.dn (k:=0) rfl cO bS) ?_)))))
  refine zm rfl (zc rfl (FO (i:=i) I s (k:=1) rfl hX J hc) ?_)
  rintro r h' ⟨f,rfl,hr,s⟩
  refine zc rfl (AP I (s.ae [1]) hr (by omega)) ?_
  intro u h s
  exact zk 3 rfl (WP.ret ⟨aa,_,rfl,_,rfl,s.del 2⟩)
 ·rw[J.good] at hg;cases hg
end
theorem Ue : ∃i,Tryz.prog.info? 28=some i∧i.size=1∧i.bytes=24 :=
 ⟨_,(show Tryz.prog.info? 28=some ((Tryz.prog.info? 28).getD default) by kernel_rfl),by kernel_rfl,by kernel_rfl⟩
section
variable {told:cR} {v:V} {kd:Nat}
theorem MG (I:W told)(s:Sat h (X::Y::S))(hX:cL X (cQ v b))(hY:cL Y (cQ x c))(hp:dR b kd link extra cs)(hf:26+4*(cs.length+1)+(tot cs+c.length)≤512):
  Call ⟨Tryz.prog,told⟩ 48 [v,.int .i64 (cs.length:Int),x] h fun r h'=>∃u b',r=.bf [u,.int .i64 0]∧dR b' kd link extra (cs++[c])∧Sat h' (aQ u b'::X::Y::S):=by
 have hl:=hp.len
 have Ay:=hp.low
 have hle:∀n,(le 2 n).length=2:=fun n=>dL 2 n
 generalize hn:cs.length=n at hf
 have J:=hp.cV
 have va:∃lo,lo+(tot cs+c.length)=512:=⟨512-(tot cs+c.length),by omega⟩
 obtain⟨lo,va⟩:=va
 have l1:(bu b 14 (le 2 (n+1))).length=512:=by grind[c9]
 have iW:jC (bu b 14 (le 2 (n+1)))=lo+c.length:=by
  grind[jC,FN]
 refine Call.of_wp (I.free _ rfl) Tryz.func48 rfl rfl (zK 8 rfl (zc rfl (vy I s hX (by omega)) ?_))
 rintro r h' (⟨hg,u,rfl,s⟩|⟨hg,rfl,s⟩)
 ·obtain⟨lq,_,cap,_,rfl,_⟩:=s.gq (by omega)
  refine zk 3 rfl ?_
  refine ax.cm s rfl rfl rfl (b6 jU) (fun p8 h s => ?_)
  dsimp only[V.cells,List.length_cons,List.length_nil,Nat.reduceAdd] at s
  refine zS rfl (s.fS (j:=0) rfl bS rfl rfl) (fun h s => ?_)
  dsimp only[setA] at s
  refine zk 3 rfl (WP.block (zK 3 rfl (zC rfl aE (rfl) (zk 6 rfl (zC rfl bh (by simp) ?_)))))
  refine zk 2 rfl (zl rfl (s.dn (k:=0) rfl cO bS) (zc rfl (lJ I s (k:=1) rfl (bk _ _) hl) ?_))
  rintro r h' ⟨rfl,s⟩
  rw[J,hn]
  refine zC rfl gA (by simp) ?_
  refine zk 6 rfl (zl rfl (s.dn (k:=0) rfl cO bS) (zc rfl (Uc I (s.ae [1]) (bk _ _) hp) ?_))
  rintro r h' ⟨rfl,s⟩
  have s:=s.ae [1,0]
  dsimp only[aI,bringA,getA] at s
  rw[hn]
  refine zm rfl (zo rfl (aN rfl rfl rfl (aW aK (s.aD (k:=3) rfl hY))) (zb rfl (by exact bC (aB (by omega) (by omega))) ?_))
  refine zC rfl bh (by grind) ?_
  refine za rfl (zv (zj rfl (WP.skip (zw (zg rfl (zl rfl (by exact s.dn (k:=0) rfl cO bS) ?_))))))
  refine zc rfl (XN I s (k:=1) rfl (bk _ _) hp) ?_
  rintro r h' ⟨rfl,s⟩
  rw[hn]
  refine zm rfl (zo rfl (aN rfl rfl rfl (aW aK (s.aD (k:=3) rfl hY))) (zb rfl (by exact bC (aB (by omega) (by omega))) ?_))
  refine zC rfl bh (by grind) ?_
  refine zv (zj rfl (WP.skip (zg rfl (zl rfl (by exact s.dn (k:=0) rfl cO bS) ?_))))
  refine zc rfl (lJ I s (k:=1) rfl (bk _ _) hl) ?_
  rintro r h' ⟨rfl,s⟩
  rw[J,hn]
  refine zk 3 rfl ?_
  have q1:((26:Int)+4*((n:Int)+1)).toNat=30+4*n:=by omega
  have q2:((26:Int)+4*(n:Int)).toNat=26+4*n:=by omega
  have s0:=s
  refine WP.drawn [ah,ah,ah,ah,ah,ah,ah,ah,ah,ah,ah,ah,ah,ah,ah,ah,ah,ah,ah,ah,ah] rfl (by kernel_rfl) (by kernel_rfl) ?_
  refine zF rfl (iI _ _) (zL rfl (s.ld (k:=0) rfl bE rfl) (zM rfl (zO rfl (aA rfl rfl (by exact bC (aB (by omega) (by omega)))) ?_)))
  refine zO rfl (aA rfl rfl (by exact kJ (aB (by omega) (by omega)))) ?_
  refine zO rfl (aA rfl rfl (by exact bC (aB (by omega) (by omega)))) ?_
  refine zM rfl (zO rfl (aA rfl rfl (by exact bC (aB (by omega) (by omega)))) ?_)
  refine zO rfl (aA rfl rfl (by exact kJ (aB (by omega) (by omega)))) ?_
  refine zO rfl (aA rfl rfl (by exact bC (aB (by omega) (by omega)))) ?_
  refine zO rfl (cH (p:=some (.int .i64 (26+4*((n:Int)+1)))) (q:=some (.int .i64 (26+4*((n:Int)+1)))) (m:=none) (p':=some (30+4*n)) (q':=some (30+4*n)) (m':=none) rfl rfl rfl rfl (by rw[fT (by omega),q1]) (by rw[fT (by omega),q1]) rfl (gP (s.buf (k:=1) rfl).view (aU _) (by omega)).1) ?_
  refine zF rfl (iI _ _) (zL rfl (s.ld (k:=0) rfl bE rfl) (zM rfl (zO rfl (aA rfl rfl (by exact kJ (aB (by omega) (by omega)))) ?_)))
  refine zO rfl (aA rfl rfl (by exact bC (aB (by omega) (by omega)))) ?_
  refine zM rfl (zO rfl (aA rfl rfl (by exact kJ (aB (by omega) (by omega)))) ?_)
  refine zO rfl (aA rfl rfl (by exact bC (aB (by omega) (by omega)))) ?_
  refine zO rfl (cH (p:=some (.int .i64 (26+4*(n:Int)))) (q:=some (.int .i64 (26+4*(n:Int)))) (m:=none) (p':=some (26+4*n)) (q':=some (26+4*n)) (m':=none) rfl rfl rfl rfl (by rfl) (by rfl) rfl (gP (s.buf (k:=1) rfl).view (aU _) (by omega)).1) ?_
  refine ay.any rfl rfl rfl rfl (OpR.abB rfl (s.ae [1]) rfl rfl rfl rfl (by omega) (by omega) (by omega)) ?_
  intro r h s
  have s:=s.ae [1,0]
  refine ay.nil ⟨⟨aa,aa,aa,aa,aa,aa,aa,aa,aa,aa,aa,aa,aa,aa,aa,aa,aa,aa,aa,aa,aa,aa⟩,?_⟩
  refine zg rfl (zl rfl (s.dn (k:=0) rfl cO bS) (zm rfl (zb rfl (by exact bC (aB (by omega) (by omega))) ?_)))
  refine zo rfl (cJ rfl (by exact jE bT c_ (fZ (by omega) (by omega)))) ?_
  have en:(n:Int)+1=((n+1:Nat):Int):=by omega
  rw[en]
  refine zc rfl (qY (a:=14) (z:=2) (n:=n+1) I (s.ae [1]) (by decide) (by decide) (by omega) (by omega)) ?_
  rintro r h ⟨rfl,s⟩
  have s:=s.ae [1,0]
  refine zk 3 rfl (zl rfl (s.dn (k:=0) rfl cO bS) (zk 2 rfl (zc rfl (Ud (i:=n) (lo:=lo) I (s.ae [1,2]) hY l1 (by omega) iW (by omega)) ?_)))
  rintro r h ⟨rfl,s⟩
  have s:=s.ae [2,0,1,0]
  refine zk 3 rfl (zY s 0 iI bE rfl (zk 3 rfl (WP.ret ⟨aa,_,rfl,?_⟩)))
  subst hn
  exact⟨_,_,rfl,hp.ins hf va,s.drop⟩
 ·rw[hp.good] at hg;cases hg
theorem MH (hT:W told)(s:Sat h (X::Y::S))(hX:cL X (cQ v b))(hY:cL Y (cQ x c'))(J:dR b kd link extra cs)(hc:cs[i]?=some c)(Rb:c'.length=c.length):
  Call ⟨Tryz.prog,told⟩ 110 [v,.int .i64 (i:Int),x] h fun r h'=>∃u b',r=.bf [u,.int .i64 0]∧dR b' kd link extra (cs.set i c')∧Sat h' (aQ u b'::X::Y::S):=by
 have hl:=J.len
 have eX:=J.fits
 have hi:=(List.getElem?_eq_some_iff.1 hc).1
 have Q9:=ou hc
 have I:=J.rep hc Rb
 obtain⟨s1,s2,s3⟩:=J.slot i c hc
 generalize hf:dW b i=f at s1 s3 I
 have l1:(bu b f c').length=512:=by rw[c9 (by omega),hl]
 refine Call.of_wp (hT.free _ rfl) Tryz.func110 rfl rfl (zK 8 rfl (zc rfl (vy hT s hX (by omega)) ?_))
 rintro r h' (⟨hg,u,rfl,s⟩|⟨hg,rfl,s⟩)
 ·obtain⟨lq,_,cap,_,rfl,_⟩:=s.gq (by omega)
  refine zk 3 rfl ?_
  refine ax.cm s rfl rfl rfl (b6 jU) (fun p8 h s => ?_)
  dsimp only[V.cells,List.length_cons,List.length_nil,Nat.reduceAdd] at s
  refine zS rfl (s.fS (j:=0) rfl bS rfl rfl) (fun h s => ?_)
  dsimp only[setA] at s
  refine zk 3 rfl (WP.block (zK 3 rfl (zC rfl aE (rfl) (zk 6 rfl (zC rfl bh (by simp) ?_)))))
  refine zk 2 rfl (zl rfl (s.dn (k:=0) rfl cO bS) (zc rfl (lJ hT s (k:=1) rfl (bk _ _) hl) ?_))
  rintro r h' ⟨rfl,s⟩
  rw[J.cV]
  refine zC rfl oa (by grind) ?_
  refine zk 2 rfl (zv (zj rfl (WP.skip (zg rfl (zl rfl (by exact s.dn (k:=0) rfl cO bS) ?_)))))
  refine zm rfl (zc rfl (BF (i:=i) hT s (k:=1) rfl (bk _ _) hl (by omega)) ?_)
  rintro r h' ⟨rfl,s⟩
  rw[hf,s2]
  refine zk 10 rfl (zo rfl (aN rfl rfl rfl (aW aK (s.aD (k:=3) rfl hY))) (zm rfl (zB rfl uN (by grind) ?_)))
  refine zk 4 rfl (zY s 0 iI bE rfl (zm rfl ?_))
  have kz:=fu (s.aD (k:=1) rfl (bk _ _)) (a:=f) (by omega)
  refine zo rfl (cH (p:=some (.int .i64 (f:Int))) (q:=none) (m:=none) (p':=some f) (q':=none) (m':=none) rfl rfl rfl rfl (by rfl) rfl rfl kz.1) ?_
  refine zm rfl (ax.any rfl rfl rfl (OpR.VU rfl (s.ae [1,2]) hY rfl rfl rfl rfl (by omega) (aU _) (by omega)) ?_)
  intro r h s
  rw[gj (by omega)] at s
  have s:=s.ae [2,0,1,0]
  refine zk 3 rfl (zl rfl (s.dn (k:=0) rfl cO bS) (zk 3 rfl (zo rfl (aN rfl rfl rfl (aW aK (s.aD (k:=3) rfl hY))) (zc rfl (Eg (i:=i) (f:=f) (z:=c'.length) hT (s.ae [1]) l1 (by omega) (by omega) (by omega)) ?_))))
  rintro r h ⟨rfl,s⟩
  have s:=s.ae [1,0]
  exact zk 3 rfl (zY s 0 iI bE rfl (zk 3 rfl (WP.ret ⟨aa,_,rfl,_,_,rfl,I,s.drop⟩)))
 ·rw[J.good] at hg;cases hg
theorem Ot (I:W told){c0 c1:List Nat}(s:Sat h (X::S))(hX:cL X (cQ v b))(J:dR b kd link extra [c0,c1]):
  Call ⟨Tryz.prog,told⟩ 140 [v] h fun r h'=>∃w u0 u1,r=.bf [w,.int .i64 0]∧Sat h' (.arr 1 w [u0,u1]::aQ u0 c0::aQ u1 c1::X::S):=by
 have hl:=J.len
 have hv:=s.aD (k:=0) rfl hX
 have eX:=J.fits
 simp only[tot,bF,cG] at eX
 obtain⟨pi,po,pc,rfl⟩:=iY hv (by omega)
 obtain⟨i1,iu,gW,pz⟩:=Ue
 refine Call.of_wp (I.free _ rfl) Tryz.func140 rfl rfl (zK 8 rfl (zc rfl (sK I s hX (by omega)) ?_))
 rintro r h' ⟨s,(⟨hg,rfl⟩|⟨hg,rfl⟩)⟩
 ·refine ax.op rfl rfl rfl (bK rfl) ?_
  refine zk 2 rfl ?_
  refine ax.cm s rfl rfl rfl (b6 jU) (fun p4 h s => ?_)
  dsimp only[V.cells,List.length_cons,List.length_nil,Nat.reduceAdd] at s
  refine zS rfl (s.fS (j:=0) rfl bS rfl rfl) (fun h s => ?_)
  dsimp only[setA] at s
  refine zk 6 rfl (zC rfl aE (rfl) (zk 5 rfl (zl rfl (s.dn (k:=0) rfl cO bS) (zc rfl (lJ I s (k:=1) rfl hX hl) ?_))))
  rintro r h' ⟨rfl,s⟩
  rw[show lI b=2 from J.cV]
  obtain⟨wv,h1,e3,s1⟩:=qw (P:=Tryz.prog) s gR iu oT gW (by omega) rfl (by decide) (by decide) (n:=0) (c:=2) (by decide) (by decide)
  refine ax.any rfl rfl rfl (OpR.of (R:=fun v h'=>v=wv∧h'=h1) (qT rfl rfl e3) ⟨rfl,rfl⟩) ?_
  rintro w0 h ⟨rfl,rfl⟩
  have s:Sat h (.arr 1 w0 []::_):=s1
  have s:=s.ae [1,1,0]
  dsimp only[bringA,getA,aI] at s
  refine zk 5 rfl (zl rfl (s.dn (k:=0) rfl cO bS) (zc rfl (lJ I s (k:=1) rfl hX hl) ?_))
  rintro r h' ⟨rfl,s⟩
  rw[show lI b=2 from J.cV]
  refine zk 2 rfl (WP.block (WP.loop (zg rfl (zB rfl bh (by decide) ?_))))
  refine zk 5 rfl (WP.block (zK 7 rfl (zl rfl (s.dn (k:=0) rfl cO bS) (zm rfl (zc rfl (FO (i:=0) (c:=c0) I s (k:=1) rfl hX J rfl) ?_)))))
  rintro r h' ⟨f,rfl,hr,s⟩
  refine zc rfl (AP I (s.ae [1]) hr (by omega)) ?_
  intro u0 h s
  have hu0:=(s.buf (k:=0) rfl).view.cells
  have s:=s.ae [3]
  dsimp only[aI,bringA,getA] at s
  obtain⟨iv,h1,tF,s1⟩:=jB (P:=Tryz.prog) (k:=1) (x:=u0) s gR oT gU rfl (by decide) (by decide) (by grind) (by grind)
  rw[hu0.1] at s1
  refine ax.any rfl rfl rfl (OpR.of (R:=fun v h'=>v=iv∧h'=h1) (ke rfl tF) ⟨rfl,rfl⟩) ?_
  rintro v' h' ⟨rfl,rfl⟩
  obtain⟨av,h2,sM,s2⟩:=gv (s1.ae [1,0]) gR iu oT gW (by omega) rfl (by decide) (by simp)
  dsimp only[List.nil_append,aI,bringA] at s2
  refine ax.any rfl rfl rfl (OpR.of (R:=fun v h'=>v=av∧h'=h2) (jI rfl rfl sM) ⟨rfl,rfl⟩) ?_
  rintro v' h ⟨rfl,rfl⟩
  have s:=(s2.del 1).ae [3,2,0,0]
  dsimp only[aI,bringA,getA] at s
  refine za rfl (zv (zr rfl (zb rfl (by exact bC (aB (by omega) (by omega))) ?_)))
  refine zm rfl (zv (WP.loop (zg rfl (zt rfl (aA rfl rfl bh) (by decide) ?_))))
  refine zk 5 rfl (WP.block (zK 7 rfl (zl rfl (s.dn (k:=0) rfl cO bS) (zm rfl (zc rfl (FO (i:=1) (c:=c1) I s (k:=1) rfl hX J rfl) ?_)))))
  rintro r h' ⟨f1,rfl,j7,s⟩
  refine zc rfl (AP I (s.ae [1]) j7 (by omega)) ?_
  intro u1 h s
  have hu1:=(s.buf (k:=0) rfl).view.cells
  have s:=s.ae [3]
  dsimp only[aI,bringA,getA] at s
  obtain⟨iv1,h1,tF,s1⟩:=jB (P:=Tryz.prog) (k:=1) (x:=u1) s gR oT gU rfl (by decide) (by decide) (by grind) (by grind)
  rw[hu1.1] at s1
  refine ax.any rfl rfl rfl (OpR.of (R:=fun v h'=>v=iv1∧h'=h1) (ke rfl tF) ⟨rfl,rfl⟩) ?_
  rintro v' h' ⟨rfl,rfl⟩
  obtain⟨av1,h2,sM,s2⟩:=gv (s1.ae [1,0]) gR iu oT gW (by omega) rfl (by decide) (by simp)
  dsimp only[List.cons_append,List.nil_append,aI,bringA] at s2
  refine ax.any rfl rfl rfl (OpR.of (R:=fun v h'=>v=av1∧h'=h2) (jI rfl rfl sM) ⟨rfl,rfl⟩) ?_
  rintro v' h ⟨rfl,rfl⟩
  have s:=(s2.del 1).ae [3,2,0,1,0]
  dsimp only[aI,bringA,getA] at s
  refine za rfl (zv (zr rfl (zb rfl (by exact bC (aB (by omega) (by omega))) ?_)))
  refine zm rfl (zv (WP.loop (zg rfl (zh rfl (aA rfl rfl bh) (by decide) ?_))))
  exact zk 3 rfl (WP.exit (zK 6 rfl (WP.ret ⟨aa,_,rfl,_,_,_,rfl,(s.ae [2,2,2,1]).del 4⟩)))
 ·rw[J.good] at hg;cases hg
end
def Sm (N:Nat)(ε af:aX): Prop:=(∀m,pgA af m=pgA ε m)∧(∀P:VP,mz N P→vw P ε→vw P af)∧bM af≤bM ε
theorem Sm.refl (N:Nat)(ε:aX): Sm N ε ε:=⟨fun _=>rfl,fun _ _ h=>h,aU _⟩
theorem Sm.trans {a b c:aX}(h:Sm N a b)(g:Sm N b c): Sm N a c:=⟨fun m=>(g.1 m).trans (h.1 m),fun P I hv=>g.2.1 P I (h.2.1 P I hv),bX g.2.2 h.2.2⟩
structure tG (told : cR) (N B : Nat) (rv : V) (A : aX → aL) (pg : aX → Int → List Nat) : Prop where
 iface : ∃ ty u f, rv = .iface ty u ∧ methV Tryz.prog ty "Read" = some f ∧ ∀ {h : H} {S : List aL} {ε : aX} {n : Int}, EI N B ε → 0 ≤ n → n < N → Sat h (A ε :: S) →
  Call ⟨Tryz.prog, told⟩ f [u, .int .i64 n] h fun v h' => ∃ w af, v = .bf [w, .int .i64 0] ∧ EI N B af ∧ Sm N ε af ∧ Sat h' (aQ w (pg ε n) :: A af :: S)
 same : ∀ {ε af : aX}, Sm N ε af → ∀ m, pg af m = pg ε m
structure xn (told : cR) (N : Nat) (lv dd : aX → Prop) (sm : aX → aX → Prop) (rv : V) (A : aX → aL) (pg : aX → Int → List Nat) : Prop where
 iface : ∃ ty u f, rv = .iface ty u ∧ methV Tryz.prog ty "Read" = some f ∧ ∀ {h : H} {S : List aL} {ε : aX} {n : Int}, lv ε → 0 ≤ n → n < N → Sat h (A ε :: S) →
  Call ⟨Tryz.prog, told⟩ f [u, .int .i64 n] h fun v h' => (∃ af, v = .bf [.a_, .int .i64 9] ∧ dd af ∧ Sat h' (A af :: S)) ∨ ∃ w af, v = .bf [w, .int .i64 0] ∧ lv af ∧ sm ε af ∧ Sat h' (aQ w (pg ε n) :: A af :: S)
 same : ∀ {ε af : aX}, sm ε af → ∀ m, pg af m = pg ε m
 tr : ∀ {a b c : aX}, sm a b → sm b c → sm a c
abbrev noD : aX→Prop:=fun _=>False
theorem tG.m {told:cR}{pg:aX→Int→List Nat}(I:tG told N B rv A pg): xn told N (EI N B) noD (Sm N) rv A pg:=by
 obtain⟨ty,u,f,e,hm,J⟩:=I.iface
 exact⟨⟨ty,u,f,e,hm,fun a b c s=>(J a b c s).mono fun _ _ k=>.inr k⟩,I.same,Sm.trans⟩
section
variable {v c:V} {cs:List V} {te t':TypeId}
theorem Sat.AQ (s:Sat h S)(J:getA S k=some (.arr 1 v cs))(hi:cs[i]?=some c)(hu:P.underlying t=some (.slice te))(I:bN P te=some 1)(e:indexAddrV P t v (.int .i64 (i:Int))=some (.ptr id off))(ha:isAggT P t'=some false): loadV P h t' (.ptr id off)=some c:=by
 grind[gJ]
theorem MI {s d:TypeId}{x:Operand}{r:V}{h₁:H}(I:bA E x=some v)(J:convV P h s d v=none)(h2:convB P h s d v=some (r,h₁)): opE P E h (.convert s d x)=some (r,h₁):=by
 grind[opE,jR]
end
def ic : List Nat:=[109,117,110,105,109,101,110,116]
theorem Uf : buildSliceV Tryz.prog h 28 8 [(0,.int .u8 109),(1,.int .u8 117),(2,.int .u8 110),(3,.int .u8 105),(4,.int .u8 109),(5,.int .u8 101),(6,.int .u8 110),(7,.int .u8 116)]=some (.sl h.next 0 8 (.exact 8),newRow h (ofBytes ic)):=by
 simp only[buildSliceV,aK,eC,n4,V.cells]
 rfl
theorem yB {x:Operand}{b:Nat}(I:0<b)(hw:a<9223372036854775808): binV P h .quo t x y (.int .i64 (a:Int)) (.int .i64 (b:Int))=some (.int .i64 ((a/b:Nat):Int)):=by
 simp only[binV,ikBeq,aj,intV]
 have:intBeq (b:Int) 0=false:=by rw[mS];simp;omega
 have J:a/b≤a:=ue a b
 grind[aB]
section
variable {told:cR} {n:Nat} {v y:V} {kd:Nat} {pg:aX→Int→List Nat} {sm:aX→aX→Prop}
theorem JD (J:W told)(s:Sat h S): Call ⟨Tryz.prog,told⟩ 74 [] h fun r h'=>Sat h' (.bY r ic::S):=by
 refine Call.of_wp (J.free _ rfl) Tryz.func74 rfl rfl (zK 6 rfl (ax.any rfl rfl rfl (OpR.of (R:=fun v h'=>v=.sl h.next 0 8 (.exact 8)∧h'=newRow h (ofBytes ic)) (ke rfl Uf) ⟨rfl,rfl⟩) ?_))
 rintro v I ⟨rfl,rfl⟩
 have s1:Sat (newRow h (ofBytes ic)) (pt h.next (.cells 8 (ofBytes ic) false)::S):=s.new _
 generalize newRow h (ofBytes ic)=I at s1
 generalize h.next=id at s1
 have hg:=s1.row (k:=0) rfl
 have e1:convB Tryz.prog I 28 28 (.sl id 0 8 (.exact 8))=some (.sl id 0 8 (.exact 8),I.put id (some (.cells 8 (ofBytes ic) true))):=by
  simp only[convB,aK,Tryz.underlying5,hg]
  rfl
 have e0:convV Tryz.prog I 28 28 (.sl id 0 8 (.exact 8))=none:=by
  simp only[convV,aK]
 have s2:Sat (I.put id (some (.cells 8 (ofBytes ic) true))) (pt id (.cells 8 (ofBytes ic) true)::S):=s1.put (k:=0) rfl
 have s3:Sat (I.put id (some (.cells 8 (ofBytes ic) true))) (.bY (.sl id 0 8 (.exact 8)) ic::S):=s2.freeze.gK (B:=.bY (.sl id 0 8 (.exact 8)) ic) fun m r hm=>⟨by decide,.inr ⟨id,0,.exact 8,8,_,true,rfl,hm,rfl,by decide,rfl,by decide⟩⟩
 refine ax.any rfl rfl rfl (OpR.of (R:=fun v h'=>v=.sl id 0 8 (.exact 8)∧h'=I.put id (some (.cells 8 (ofBytes ic) true))) (MI rfl e0 e1) ⟨rfl,rfl⟩) ?_
 rintro v h2 ⟨rfl,rfl⟩
 exact zk 2 rfl (WP.ret ⟨aa,_,rfl,s3⟩)
theorem Rc (J:W told)(hx:View h x l)(hy:View h y c): Call ⟨Tryz.prog,told⟩ 141 [x,y] h fun r h'=>r=.bool (decide (l=c))∧h'=h:=by
 refine Call.of_wp (J.free _ rfl) Tryz.func141 rfl rfl (zK 7 rfl (zo rfl (cJ rfl (Q0 hx)) (zm rfl (zo rfl (cJ rfl (Q0 hy)) ?_))))
 by_cases I:l=c
 ·skip
  exact zB rfl NK (decide_eq_true I) (zk 2 rfl (WP.ret ⟨aa,_,rfl,by rw[gn I],rfl⟩))
 ·skip
  exact zC rfl NK (decide_eq_false I) (zk 2 rfl (WP.ret ⟨aa,_,rfl,by rw[gF I],rfl⟩))
theorem xo (I:W told)(J:1≤n)(h2:n≤3000): Call ⟨Tryz.prog,told⟩ 54 [.int .i64 (n:Int)] h fun r h'=>r=.int .i64 2∧h'=h:=by
 have e:(n+2999)/3000=1:=by omega
 refine Call.of_wp (I.free _ rfl) Tryz.func54 rfl rfl (zK 7 rfl (zb rfl (by exact bC (aB (by omega) (by omega))) ?_))
 refine zb rfl (by exact iM (aB (by omega) (by omega))) ?_
 refine zo rfl (aA (r:=.int .i64 (((n+2999)/3000:Nat):Int)) rfl rfl (by rw[show(n:Int)+3000-1=((n+2999:Nat):Int) by omega];exact yB (by decide) (by omega))) ?_
 rw[e]
 refine zb rfl (by exact bC (aB (by omega) (by omega))) ?_
 exact zk 2 rfl (WP.ret ⟨aa,_,rfl,rfl,rfl⟩)
theorem XO (hT:W told)(hR:xn told N lv dd sm rv A pg)(eY:lv ε)(hN:1≤N)(hp:dR (pg ε 0) 201 n extra [ic,R])(Re:R.length=64)(s:Sat h (A ε::S)):
  Call ⟨Tryz.prog,told⟩ 91 [rv] h fun v h'=>(∃af,v=.bf [.a_,.int .i64 0,.bool false,.int .i64 9]∧Sat h' (A af::S)∧dd af)∨∃u af,v=.bf [u,.int .i64 (n:Int),.bool true,.int .i64 0]∧lv af∧sm ε af∧Sat h' (aQ u R::A af::S):=by
 obtain⟨ty,u,f,rfl,hm,jw⟩:=hR.iface
 refine Call.of_wp (hT.free _ rfl) Tryz.func91 rfl rfl (zK 10 rfl (ax.any rfl rfl rfl (OpR.invoke rfl rfl rfl hm rfl (jw eY (by decide) (by omega) s)) ?_))
 rintro v h (⟨af,rfl,hd,s⟩|⟨u,af,rfl,rq,hs,s⟩)
 ·skip
  refine zk 10 rfl (zB rfl aE (by decide) ?_)
  exact zk 10 rfl (WP.ret ⟨aa,_,rfl,.inl ⟨af,rfl,s,hd⟩⟩)
 refine zk 10 rfl (zC rfl aE (rfl) (zk 6 rfl (zc rfl (Ot hT s (bk _ _) hp) ?_)))
 rintro v h ⟨w,u0,u1,rfl,s⟩
 obtain⟨id0,I,g1,g2⟩:=gJ (P:=Tryz.prog) s (k:=0) (i:=0) (c:=u0) rfl rfl gR gU
 obtain⟨id1,J,g3,g4⟩:=gJ (P:=Tryz.prog) s (k:=0) (i:=1) (c:=u1) rfl rfl gR gU
 have JE:=(s.ju (j:=0) rfl).2.2
 have sD:=dB (s.buf (k:=1) rfl).view
 refine zk 8 rfl ?_
 have s0:=s
 refine WP.drawn [ah,ah,ah,ah,ah,ah,ah,ah,some (0,2),some (0,2),some (0,2),ah,ah,ah,ah,ah,ah,ah,ah,ah,ah,ah] rfl (by kernel_rfl) (by kernel_rfl) ?_
 refine zM rfl (ay.oN rfl rfl rfl rfl (aA rfl rfl aE) (by decide) ?_)
 refine zM rfl (zM rfl (zO rfl (aN rfl rfl rfl (s.dZ (n:=2) (j:=0) rfl rfl (by decide) gR)) ?_))
 refine ay.oN rfl rfl rfl rfl (aA rfl rfl aE) (by decide) ?_
 refine zO rfl (kr rfl rfl) (zM rfl (zM rfl (zO rfl (cK (r:=.ptr id0 I) rfl rfl g1) (zL rfl (s.AQ (k:=0) (i:=0) rfl rfl gR gU g1 bE) (ay.any rfl rfl rfl rfl (OpR.call rfl rfl rfl rfl (JD hT s)) ?_)))))
 intro mv h s
 have s:=s.ae [1,1,1,1,1,0]
 have s1:=s
 refine ay.any rfl rfl rfl rfl (OpR.call rfl rfl rfl rfl (Rc hT (s.buf (k:=1) rfl).view (s.aD (k:=5) rfl (c8 _ _)))) ?_
 rintro r h' ⟨rfl,rfl⟩
 rw[show decide (ic=ic)=true from gn rfl]
 refine zO rfl (er rfl rfl) (zO rfl (kr rfl rfl) (zM rfl (zM rfl (zO rfl (cK (r:=.ptr id1 J) rfl rfl g3) (zL rfl (s.AQ (k:=0) (i:=1) rfl rfl gR gU g3 bE) (zO rfl (aN rfl rfl rfl (aW aK (s.aD (k:=2) rfl (bk _ _)))) ?_))))))
 rw[Re]
 refine ay.oN rfl rfl rfl rfl (aA rfl rfl aE) (by decide) ?_
 refine zO rfl (kr rfl rfl) ?_
 refine ay.nil ⟨⟨aa,aa,aa,aa,aa,aa,aa,aa,fun _ _=>.inr ⟨rfl,⟨_,bK rfl⟩,JE⟩,fun _ _=>.inr ⟨rfl,⟨_,cK (r:=.ptr id0 I) rfl rfl g1⟩,bH _ rfl⟩,eE (.inr ⟨rfl,⟨_,aZ rfl (s0.AQ (k:=0) (i:=0) rfl rfl gR gU g1 bE)⟩,sD⟩) (.inr ⟨rfl,⟨_,aZ rfl (s1.AQ (k:=0) (i:=0) rfl rfl gR gU g1 bE)⟩,sD⟩),aa,aa,aa,aa,aa,aa,aa,aa,aa,aa,aa,aa⟩,?_⟩
 refine zK 5 rfl ?_
 have qN:=hp.len
 refine zc rfl (Fz hT (s.ae [3]) (bk _ _) (by omega)) ?_
 rintro v h ⟨s,(⟨hg,rfl⟩|⟨hg,rfl⟩)⟩
 ·rw[show(pg ε 0).getD 12 0=201 from hp.kind,show dh (pg ε 0) 18 4=n from hp.link]
  have s:=s.ae [1,1,1,1,0]
  refine zk 16 rfl (zC rfl aE (by decide) ?_)
  exact zk 6 rfl (zo rfl (cK (r:=.ptr id1 J) rfl rfl g3) (zl rfl (s.AQ (k:=0) (i:=1) rfl rfl gR gU g3 bE) (zk 6 rfl (WP.ret ⟨aa,_,rfl,.inr ⟨_,af,rfl,rq,hs,(((((s.ae [2,2]).del 5).del 4).del 3).del 2)⟩⟩))))
 ·rw[hp.good] at hg;cases hg
theorem Ei (hT:W told)(hR:xn told N lv dd sm rv A pg)(J:lv ε)(hN:1≤N)(hp:dR (pg ε 0) 201 n extra [ic,R])(Re:R.length=64)(s:Sat h (A ε::S)):
  Call ⟨Tryz.prog,told⟩ 53 [rv] h fun v h'=>(∃af,v=.bf [.a_,.int .i64 0,.int .i64 9]∧Sat h' (A af::S)∧dd af)∨∃u af,v=.bf [u,.int .i64 (n:Int),.int .i64 0]∧lv af∧sm ε af∧Sat h' (aQ u R::A af::S):=by
 refine Call.of_wp (hT.free _ rfl) Tryz.func53 rfl rfl (zK 9 rfl (zc rfl (XO hT hR J hN hp Re s) ?_))
 rintro v h (⟨af,rfl,s,hd⟩|⟨u,af,rfl,I,hs,s⟩)
 ·skip
  refine zk 11 rfl (WP.block (zK 3 rfl (zB rfl aE (by decide) ?_)))
  exact zk 10 rfl (WP.ret ⟨aa,_,rfl,.inl ⟨af,rfl,s,hd⟩⟩)
 refine zk 9 rfl (zv (zw (WP.block (zg rfl (zm rfl (zh rfl (aA rfl rfl aE) (rfl) (za rfl (zv (zj rfl (zg rfl (zm rfl (zo rfl (er rfl rfl) (za rfl (zv (zj rfl (WP.skip (zg rfl (zk 5 rfl (zv ?_)))))))))))))))))))
 refine WP.ret ⟨aa,_,rfl,?_⟩
 exact .inr ⟨u,af,rfl,I,hs,s⟩
theorem MJ (hT:W told)(hR:tG told N B rv A pg)(I:EI N B ε)(hN:1≤N)(hp:dR (pg ε 0) 201 n extra [ic,R])(J:R.length=64)(s:Sat h (A ε::S)):
  Call ⟨Tryz.prog,told⟩ 53 [rv] h fun v h'=>∃u af,v=.bf [u,.int .i64 (n:Int),.int .i64 0]∧EI N B af∧Sm N ε af∧Sat h' (aQ u R::A af::S) :=
 (Ei hT hR.m I hN hp J s).mono fun _ _ k=>k.resolve_left fun⟨_,_,_,q⟩=>q
theorem XP (J:W told)(hR:tG told N B rv A pg)(eY:EI N B ε)(hN:1≤N)(hp:dR (pg ε 0) 201 n extra [ic,R])(Re:R.length=64)(h1:1≤n)(h2:n≤3000)(s:Sat h (A ε::S)):
  Call ⟨Tryz.prog,told⟩ 66 [rv] h fun v h'=>∃af,v=.bf [.int .i64 2,.int .i64 0]∧EI N B af∧Sm N ε af∧Sat h' (A af::S):=by
 refine Call.of_wp (J.free _ rfl) Tryz.func66 rfl rfl (zK 8 rfl (zc rfl (MJ J hR eY hN hp Re s) ?_))
 rintro v h ⟨u,af,rfl,I,hs,s⟩
 refine zk 12 rfl (zC rfl aE (rfl) (zk 6 rfl (zc rfl (xo J h1 h2) ?_)))
 rintro v h' ⟨rfl,rfl⟩
 exact zk 3 rfl (WP.ret ⟨aa,_,rfl,af,rfl,I,hs,s.drop⟩)
theorem xp (hT:W told)(hR:xn told N lv dd sm rv A pg)(J:lv ε)(hN:2≤N)(hp:dR (pg ε 1) kd link extra [M])(hM:M.length=375)(s:Sat h (A ε::S)):
  Call ⟨Tryz.prog,told⟩ 55 [rv,.int .i64 0] h fun v h'=>(∃af,v=.bf [.a_,.a_,.int .i64 9]∧Sat h' (A af::S)∧dd af)∨∃w u af,v=.bf [w,u,.int .i64 0]∧lv af∧sm ε af∧Sat h' (aQ u M::aQ w (pg ε 1)::A af::S):=by
 obtain⟨ty,u,f,rfl,hm,jw⟩:=hR.iface
 refine Call.of_wp (hT.free _ rfl) Tryz.func55 rfl rfl (zK 11 rfl (zb rfl (by exact bC (aB (by omega) (by omega))) ?_))
 refine ax.any rfl rfl rfl (OpR.invoke rfl rfl rfl hm rfl (jw (n:=1) J (by decide) (by omega) s)) ?_
 rintro v h (⟨af,rfl,hd,s⟩|⟨w,af,rfl,I,hs,s⟩)
 ·skip
  refine zk 9 rfl (zB rfl aE (by decide) ?_)
  exact zk 9 rfl (WP.ret ⟨aa,_,rfl,.inl ⟨af,rfl,s,hd⟩⟩)
 refine zk 9 rfl (zC rfl aE (rfl) (zk 6 rfl (zc rfl (JC (i:=0) hT s (bk _ _) hp rfl) ?_)))
 rintro v h ⟨u,rfl,s⟩
 refine zk 10 rfl (zC rfl aE (rfl) (zk 2 rfl (zo rfl (aN rfl rfl rfl (aW aK (s.aD (k:=0) rfl (bk _ _)))) ?_)))
 rw[hM]
 refine zC rfl aE (by decide) ?_
 exact zk 12 rfl (WP.ret ⟨aa,_,rfl,.inr ⟨w,u,af,rfl,I,hs,s⟩⟩)
theorem Ug (J:W told)(hR:tG told N B rv A pg)(I:EI N B ε)(hN:2≤N)(hp:dR (pg ε 1) kd link extra [M])(hM:M.length=375)(s:Sat h (A ε::S)):
  Call ⟨Tryz.prog,told⟩ 55 [rv,.int .i64 0] h fun v h'=>∃w u af,v=.bf [w,u,.int .i64 0]∧EI N B af∧Sm N ε af∧Sat h' (aQ u M::aQ w (pg ε 1)::A af::S) :=
 (xp J hR.m I hN hp hM s).mono fun _ _ k=>k.resolve_left fun⟨_,_,_,q⟩=>q
end
def bt (M:List Nat)(i:Nat): Bool:=(M.getD (i/8) 0).testBit (i%8)
def Ej (M:List Nat)(i:Nat): List Nat:=M.set (i/8) (Nat.lor (M.getD (i/8) 0) (2^(i%8)))
def JF (M:List Nat)(i:Nat): List Nat:=M.set (i/8) (Nat.land (M.getD (i/8) 0) (255-2^(i%8)))
theorem JG {b:Nat}(hi:i<M.length): (M.set i b).getD j 0=if i=j then b else M.getD j 0:=by
 grind
theorem VW (hi:i/8<M.length): bt (Ej M i) j=if j=i then true else bt M j:=by
 unfold bt Ej
 rw[JG hi]
 by_cases h:i/8=j/8
 ·rw[aP h,show Nat.lor (M.getD (i/8) 0) (2^(i%8))=(M.getD (i/8) 0) ||| (2^(i%8)) from rfl,Nat.testBit_or,Nat.testBit_two_pow,h]
  grind
 ·grind
theorem VX (hi:i/8<M.length): bt (JF M i) j=if j=i then false else bt M j:=by
 unfold bt JF
 rw[JG hi]
 by_cases h:i/8=j/8
 ·have e:255-2^(i%8)=2^8-(2^(i%8)+1):=by omega
  have I:2^(i%8)<2^8:=wk (by decide) (by omega)
  rw[aP h,show Nat.land (M.getD (i/8) 0) (255-2^(i%8))=(M.getD (i/8) 0) &&& (255-2^(i%8)) from rfl,Nat.testBit_and,e,Nat.testBit_two_pow_sub_succ I,Nat.testBit_two_pow,h]
  grind
 ·grind
theorem MK : (Ej M i).length=M.length:=dJ
theorem ML : (JF M i).length=M.length:=dJ
theorem Rf (I:a<256)(J:k<8): Nat.lor a (2^k)<256:=Nat.or_lt_two_pow (n:=8) I (wk (by decide) J)
theorem FP {c:Nat}(I:a<256): Nat.land a c<256:=EO Nat.and_le_left I
def lM (x:Nat): Nat:=((List.range 8).filter fun i => !x.testBit i).headD 8
theorem MM : ∀x,x<255→lM x<8∧x.testBit (lM x)=false∧∀j,j<lM x→x.testBit j=true:=by
 have:∀x,x<255→(decide (lM x<8)&&(!x.testBit (lM x)&&(List.range (lM x)).all fun j=>x.testBit j))=true:=by decide +kernel
 grind
theorem acM : ∀x,x<256→(∀j,j<8→x.testBit j=true)→x=255:=by
 have:∀x,x<256→((List.range 8).all fun j=>x.testBit j)=true→x=255:=by decide +kernel
 grind
theorem Ek (I:j<8): bt M (8*k+j)=(M.getD k 0).testBit j:=by
 grind[bt]
section
variable {x:Operand} {b:Nat}
theorem Rg (I:k<8): binV P h .shr t x y (.int .u8 (a:Int)) (.int .i64 (k:Int))=some (.int .u8 ((a/2^k:Nat):Int)):=by
 simp only[binV,shiftV,IntKind.bits,dY]
 grind
theorem Z7 (I:k<8): binV P h .shl t x y (.int .u8 1) (.int .i64 (k:Int))=some (.int .u8 ((2^k:Nat):Int)):=by
 have J:2^k<256:=wk (a:=2) (n:=8) (by decide) I
 simp only[binV,shiftV,IntKind.bits,dY]
 grind[DF]
theorem BI {op:BinOp}{f:Nat→Nat→Nat}(I:a<256)(J:b<256)(hf:f a b<256)(he:bitsV op .u8 (a:Int) (b:Int)=some (.int .u8 (IntKind.u8.wrap (f ((a:Int)%(2^(IntKind.u8).bits:Int)).toNat ((b:Int)%(2^(IntKind.u8).bits:Int)).toNat:Nat)))):
  bitsV op .u8 (a:Int) (b:Int)=some (.int .u8 ((f a b:Nat):Int)):=by
 grind[IntKind.bits,DF]
theorem Rh (I:a<256)(J:b<256): binV P h .and t x y (.int .u8 (a:Int)) (.int .u8 (b:Int))=some (.int .u8 ((Nat.land a b:Nat):Int)):=by
 simp only[binV,ikBeq,aj,intV]
 exact BI (f:=Nat.land) I J (FP I) rfl
theorem abC (I:a<256)(J:k<8): binV P h .or t x y (.int .u8 (a:Int)) (.int .u8 ((2^k:Nat):Int))=some (.int .u8 ((Nat.lor a (2^k):Nat):Int)):=by
 simp only[binV,ikBeq,aj,intV]
 exact BI (f:=Nat.lor) I (wk (a:=2) (n:=8) (by decide) J) (Rf I J) rfl
theorem Ri (I:a<256)(J:b<256): binV P h .andNot t x y (.int .u8 (a:Int)) (.int .u8 (b:Int))=some (.int .u8 ((Nat.land a (255-b):Nat):Int)):=by
 simp only[binV,ikBeq,aj,intV]
 exact BI (f:=fun a b=>Nat.land a (255-b)) I J (FP I) rfl
theorem JH (I:a<256): unV .xor (.int .u8 (a:Int))=some (.int .u8 ((255-a:Nat):Int)):=by
 have:∀a,a<256→Nat.xor 255 a=255-a:=by decide +kernel
 have e:bitsV .xor .u8 ((255:Nat):Int) (a:Int)=some (.int .u8 ((Nat.xor 255 a:Nat):Int)):=BI (f:=Nat.xor) (by decide) I (by grind) rfl
 rw[this a I] at e
 exact e
theorem Z8 : Nat.land (a/2^k) 1=if a.testBit k=true then 1 else 0:=by
 rw[Nat.testBit_eq_decide_div_mod_eq,show Nat.land (a/2^k) 1=(a/2^k) &&& 1 from rfl,EN]
 grind
theorem Z9 {f:Nat→Nat}{L:List Nat}(hu:P.underlying t=some .string)(I:∀x,x<256→nth L x=some (f x))(J:a<256): indexV P t (.str L) (.int .u8 (a:Int))=some (.int .u8 ((f a:Nat):Int)):=by
 simp_all[indexV]
end
section
variable {told:cR} {n:Nat} {v y:V} {kd:Nat} {pg:aX→Int→List Nat}
theorem JI (I:W told)(J:a<256): Call ⟨Tryz.prog,told⟩ 109 [.int .u8 ((255-a:Nat):Int)] h fun r h'=>r=.int .i64 (lM a:Nat)∧h'=h:=by
 have hle:∀a,a<256→lM a≤8:=by decide +kernel
 have hle:=hle a J
 have he:lM (255-(255-a))=lM a:=by rw[show 255-(255-a)=a by omega]
 refine Call.of_wp (I.free _ rfl) Tryz.func109 rfl rfl (zK 7 rfl (zo rfl (Cx rfl rfl (Z9 (f:=fun x=>lM (255-x)) qW (by decide +kernel) (by omega))) ?_))
 rw[he]
 refine zo rfl (cJ rfl (by exact jE Tryz.underlying5 bT (aB (by omega) (by omega)))) ?_
 exact zk 2 rfl (WP.ret ⟨aa,_,rfl,rfl,rfl⟩)
noncomputable def lwL : Code:=cN [1,1,1,0,1,0,0,1,1,0,0,1,1,1,1,0,0] ((Tryz.f51.body).getD .skip)
theorem Uh (hT:W told){lo:Nat}(hv:View h u M)(hM:M.length=375)(hn:n≤3000)(va:lo<n)(h0:bt M lo=false)(h1:∀j,j<lo→bt M j=true): ∀(m k:Nat) (E:List (Nat×V)) (Q:Ex→List (Nat×V)→H→Prop),k+m=lo/8 →
  Has E [(5,.int .i64 (n:Int)),(7,.int .i64 0),(39,u),(40,.int .i64 375),(41,.int .i64 (k:Int))] →
  (∀E',look E' 2=some (.int .i64 (lo:Int))→look E' 3=some (.int .i64 0)→Q .ret E' h)→WP ⟨Tryz.prog,told⟩ 65 (.loop lwL) E h Q:=by
 intro m
 induction m with
 |zero =>
  intro k E Q hk hE hq
  have J:M[k]?=some (M[k]'(by omega)):=bx _
  have I:M.getD k 0=M[k]'(by omega):=by rw[lW,J];rfl
  generalize (M[k]'(by omega))=x at J I
  have hx:x<256:=hv.1 x (bD J)
  obtain⟨id,off,e1,e2⟩:=eU hv J
  have yW:x≠255:=fun e=>by
   have:=Ek (M:=M) (k:=k) (j:=lo%8) (by omega)
   rw[show 8*k+lo%8=lo by omega,h0,I,e] at this
   have q:∀j,j<8→(255:Nat).testBit j=true:=by decide
   rw[q _ (by omega)] at this;cases this
  obtain⟨w1,w2,w3⟩:=MM x (by omega)
  have hl:8*k+lM x=lo:=by
   have a1:=Ek (M:=M) (k:=k) (j:=lM x) w1
   rw[I,w2] at a1
   rcases qh (8*k+lM x) lo with q|q
   ·rw[h1 _ q] at a1;cases a1
   ·by_cases q2:lo%8<lM x
    ·have:=w3 _ q2
     have a2:=Ek (M:=M) (k:=k) (j:=lo%8) (by omega)
     rw[show 8*k+lo%8=lo by omega,h0,I,this] at a2;cases a2
    ·omega
  refine WP.loop (WP.has hE (zg rfl (zB rfl bh (by simp;omega) ?_)))
  refine zk 5 rfl (WP.block (zK 3 rfl (zo rfl (cK (r:=.ptr id off) rfl rfl e1) (zl rfl e2 (zk 6 rfl (zb rfl (by exact kJ (aB (by omega) (by omega))) ?_))))))
  refine zm rfl (zb rfl (by exact kJ (aB (by omega) (by omega))) ?_)
  refine zb rfl (by exact bC (aB (by omega) (by omega))) ?_
  refine zm rfl (zo rfl (er rfl (JH hx)) (zc rfl (JI hT hx) ?_))
  rintro v h' ⟨rfl,rfl⟩
  refine zo rfl (aA (r:=.int .i64 (lo:Int)) rfl rfl (by rw[←hl,show(((8*k+lM x:Nat):Int))=(3000*0+8*(k:Int))+(lM x:Int) by omega];exact bC (aB (by omega) (by omega)))) ?_
  refine zk 5 rfl (zB rfl aE (by simp;omega) ?_)
  refine zk 3 rfl (zB rfl bh (by simp;omega) ?_)
  exact zk 9 rfl (WP.ret (hq _ rfl rfl))
 |succ m ih =>
  intro k E Q hk hE hq
  have J:M[k]?=some (M[k]'(by omega)):=bx _
  have I:M.getD k 0=M[k]'(by omega):=by rw[lW,J];rfl
  generalize (M[k]'(by omega))=x at J I
  have hx:x<256:=hv.1 x (bD J)
  obtain⟨id,off,e1,e2⟩:=eU hv J
  have yW:x=255:=acM x hx fun j hj=>by rw[←I,←Ek hj];exact h1 _ (by omega)
  have Rj:∀a,a<256→lM a≤8:=by decide +kernel
  have Rj:=Rj x hx
  refine WP.loop (WP.has hE (zg rfl (zB rfl bh (by simp;omega) ?_)))
  refine zk 5 rfl (WP.block (zK 3 rfl (zo rfl (cK (r:=.ptr id off) rfl rfl e1) (zl rfl e2 (zk 6 rfl (zb rfl (by exact kJ (aB (by omega) (by omega))) ?_))))))
  refine zm rfl (zb rfl (by exact kJ (aB (by omega) (by omega))) ?_)
  refine zb rfl (by exact bC (aB (by omega) (by omega))) ?_
  refine zm rfl (zo rfl (er rfl (JH hx)) (zc rfl (JI hT hx) ?_))
  rintro v h' ⟨rfl,rfl⟩
  refine zb rfl (by exact bC (aB (by omega) (by omega))) ?_
  refine zk 5 rfl (zC rfl aE (by simp;omega) ?_)
  refine zk 5 rfl (zv (zj rfl (WP.skip (zr rfl (zb rfl (by exact bC (aB (by omega) (by omega))) ?_)))))
  refine zm rfl (zv ?_)
  exact ih (k+1) _ Q (by omega) ⟨rfl,rfl,rfl,rfl,rfl,aa⟩ hq
theorem Rl (hT:W told)(hv:View h u M)(hM:M.length=375)(hn:n≤3000)(h1:∀j,j<n→bt M j=true)(h0:∀j,n≤j→bt M j=false): ∀(m k:Nat) (E:List (Nat×V)) (Q:Ex→List (Nat×V)→H→Prop),k+m=375 →
  Has E [(5,.int .i64 (n:Int)),(7,.int .i64 0),(25,.int .i64 1),(26,.int .i64 0),(39,u),(40,.int .i64 375),(41,.int .i64 (k:Int))] →
  (∀E',Has E' [(25,.int .i64 1),(26,.int .i64 0)]→Q (.exit 2) E' h)→WP ⟨Tryz.prog,told⟩ 65 (.loop lwL) E h Q:=by
 intro m
 induction m with
 |zero =>
  intro k E Q hk I hq
  refine WP.loop (WP.has I (zg rfl (zC rfl bh (by simp;omega) ?_)))
  exact zk 3 rfl (WP.exit (hq _ ⟨rfl,rfl,aa⟩))
 |succ m ih =>
  intro k E Q hk I hq
  have hb:M[k]?=some (M[k]'(by omega)):=bx _
  have J:M.getD k 0=M[k]'(by omega):=by rw[lW,hb];rfl
  generalize (M[k]'(by omega))=x at hb J
  have hx:x<256:=hv.1 x (bD hb)
  obtain⟨id,off,e1,e2⟩:=eU hv hb
  have Rj:∀a,a<256→lM a≤8:=by decide +kernel
  have Rj:=Rj x hx
  have next:=fun E I=>ih (k+1) E Q (by omega) I hq
  refine WP.loop (WP.has I (zg rfl (zB rfl bh (by simp;omega) ?_)))
  refine zk 5 rfl (WP.block (zK 3 rfl (zo rfl (cK (r:=.ptr id off) rfl rfl e1) (zl rfl e2 (zk 6 rfl (zb rfl (by exact kJ (aB (by omega) (by omega))) ?_))))))
  refine zm rfl (zb rfl (by exact kJ (aB (by omega) (by omega))) ?_)
  refine zb rfl (by exact bC (aB (by omega) (by omega))) ?_
  refine zm rfl (zo rfl (er rfl (JH hx)) (zc rfl (JI hT hx) ?_))
  rintro v h' ⟨rfl,rfl⟩
  refine zb rfl (by exact bC (aB (by omega) (by omega))) ?_
  refine zk 5 rfl ?_
  by_cases yW:x=255
  ·skip
   refine zC rfl aE (by simp;omega) ?_
   refine zk 5 rfl (zv (zj rfl (WP.skip (zr rfl (zb rfl (by exact bC (aB (by omega) (by omega))) ?_)))))
   refine zm rfl (zv ?_)
   exact next _ ⟨rfl,rfl,rfl,rfl,rfl,rfl,rfl,aa⟩
  ·obtain⟨w1,w2,w3⟩:=MM x (by omega)
   have Y2:n≤8*k+lM x:=by
    rcases qh (8*k+lM x) n with q|q
    ·have:=h1 _ q
     rw[Ek w1,J,w2] at this;cases this
    ·exact q
   refine zB rfl aE (by simp;omega) ?_
   refine zk 3 rfl (zC rfl bh (by simp;omega) ?_)
   refine zq rfl (zv (zj rfl (WP.skip (zr rfl (zb rfl (by exact bC (aB (by omega) (by omega))) ?_)))))
   refine zm rfl (zv ?_)
   exact next _ ⟨rfl,rfl,rfl,rfl,rfl,rfl,rfl,aa⟩
end
section
variable {x:Operand} {n:Nat}
theorem Ou (I:n<3000): binV P h .quo t x y (.int .i64 (n:Int)) (.int .i64 3000)=some (.int .i64 0):=by
 have:=yB (P:=P) (h:=h) (t:=t) (x:=x) (y:=y) (a:=n) (b:=3000) (by decide) (by omega)
 rw[show n/3000=0 by omega] at this;exact this
theorem Ov (I:n<3000): binV P h .rem t x y (.int .i64 (n:Int)) (.int .i64 3000)=some (.int .i64 (n:Int)):=by
 have:=CH (P:=P) (h:=h) (t:=t) (x:=x) (y:=y) (a:=n) (b:=3000) (by decide)
 rw[show n%3000=n by omega] at this;exact this
theorem JJ : binV P h .eql t x y (.int .u8 ((Nat.land (a/2^k) 1:Nat):Int)) (.int .u8 1)=some (.bool (a.testBit k)):=by
 rw[Z8]
 cases h:a.testBit k<;>rfl
theorem Ow {ts:Array TypeId}{k:IntKind}{a b:Int}: builtinV P h .min ts [.int k a,.int k b]=some (.int k (min a b),h):=by
 grind[builtinV,foldV,Cm,dx]
end
section
variable {told:cR} {n:Nat} {v y:V} {kd:Nat} {pg:aX→Int→List Nat} {sm:aX→aX→Prop}
structure fI (n:Nat)(R M:List Nat)(p:Int→List Nat): Prop where
 head:∃ex,dR (p 0) 201 n ex [ic,R]
 rl:R.length=64
 marks:∃kd lk ex,dR (p 1) kd lk ex [M]
 ml:M.length=375
 n1:2≤n
 n2:n≤2999
 own:∀j,j<2→bt M j=true
 hi:∀j,n≤j→bt M j=false
theorem Ui (hT:W told)(hR:xn told N lv dd sm rv A pg)(eY:lv ε)(hN:2≤N)(hp:fI n R M (pg ε)){lo:Nat}(va:lo<n)(h0:bt M lo=false)(h1:∀j,j<lo→bt M j=true)(s:Sat h (A ε::S)):
  Call ⟨Tryz.prog,told⟩ 51 [rv] h fun v h'=>(∃af,v=.bf [.int .i64 0,.int .i64 9]∧Sat h' (A af::S)∧dd af)∨∃af,v=.bf [.int .i64 (lo:Int),.int .i64 0]∧lv af∧sm ε af∧Sat h' (A af::S):=by
 obtain⟨ex,sF⟩:=hp.head
 obtain⟨kd,lk,mJ,I⟩:=hp.marks
 have hM:=hp.ml
 have qA:=hp.n2
 refine Call.of_wp (hT.free _ rfl) Tryz.func51 rfl rfl (zK 8 rfl (zc rfl (Ei hT hR eY (by omega) sF hp.rl s) ?_))
 rintro v h (⟨J,rfl,s,hd⟩|⟨u,J,rfl,oQ,jD,s⟩)
 ·skip
  refine zk 12 rfl (zB rfl aE (by decide) ?_)
  exact zk 8 rfl (WP.ret ⟨aa,_,rfl,.inl ⟨J,rfl,s,hd⟩⟩)
 refine zk 12 rfl (zC rfl aE (rfl) (zk 7 rfl (zc rfl (xo hT (by omega) (by omega)) ?_)))
 rintro v h' ⟨rfl,rfl⟩
 refine zb rfl (by exact iM (aB (by omega) (by omega))) ?_
 refine zk 2 rfl (WP.block (WP.loop (zg rfl (zB rfl bh (by decide) ?_))))
 have I:dR (pg J 1) kd lk mJ [M]:=by rw[hR.same jD];exact I
 refine zk 5 rfl (WP.block (zK 9 rfl (zc rfl (xp hT hR oQ hN I hM (s.ae [1])) ?_)))
 rintro v h (⟨fM,rfl,s,hd⟩|⟨w2,u2,fM,rfl,jW,jg,s⟩)
 ·skip
  refine zk 12 rfl (zB rfl aE (by decide) ?_)
  exact zk 8 rfl (WP.ret ⟨aa,_,rfl,.inl ⟨fM,rfl,s.del 1,hd⟩⟩)
 refine zk 12 rfl (zC rfl aE (rfl) (zk 6 rfl (zo rfl (aN rfl rfl rfl (aW aK (s.aD (k:=0) rfl (bk _ _)))) ?_)))
 rw[hM]
 refine zk 2 rfl (WP.block ?_)
 refine Uh hT (s.buf (k:=0) rfl).view hM (by omega) va h0 h1 (lo/8) 0 _ _ (by omega) ⟨rfl,rfl,rfl,rfl,rfl,aa⟩ (fun E' l2 l3=>⟨aa,_,pX l2 l3,.inr ⟨fM,rfl,jW,hR.tr jD jg,?_⟩⟩)
 exact((s.ae [2]).del 3 |>.del 2).del 1
theorem Rm (hT:W told)(hR:xn told N lv dd sm rv A pg)(eY:lv ε)(hN:2≤N)(I:fI n R M (pg ε))(h1:∀j,j<n→bt M j=true)(s:Sat h (A ε::S)):
  Call ⟨Tryz.prog,told⟩ 51 [rv] h fun v h'=>(∃af,v=.bf [.int .i64 0,.int .i64 9]∧Sat h' (A af::S)∧dd af)∨∃af,v=.bf [.int .i64 (-1),.int .i64 0]∧lv af∧sm ε af∧Sat h' (A af::S):=by
 obtain⟨ex,sF⟩:=I.head
 obtain⟨kd,lk,mJ,J⟩:=I.marks
 have hM:=I.ml
 have qA:=I.n2
 have qX:=I.n1
 refine Call.of_wp (hT.free _ rfl) Tryz.func51 rfl rfl (zK 8 rfl (zc rfl (Ei hT hR eY (by omega) sF I.rl s) ?_))
 rintro v h (⟨pG,rfl,s,hd⟩|⟨u,pG,rfl,oQ,jD,s⟩)
 ·skip
  refine zk 12 rfl (zB rfl aE (by decide) ?_)
  exact zk 8 rfl (WP.ret ⟨aa,_,rfl,.inl ⟨pG,rfl,s,hd⟩⟩)
 refine zk 12 rfl (zC rfl aE (rfl) (zk 7 rfl (zc rfl (xo hT (by omega) (by omega)) ?_)))
 rintro v h' ⟨rfl,rfl⟩
 refine zb rfl (by exact iM (aB (by omega) (by omega))) ?_
 refine zk 2 rfl (WP.block (WP.loop (zg rfl (zB rfl bh (by decide) ?_))))
 have J:dR (pg pG 1) kd lk mJ [M]:=by rw[hR.same jD];exact J
 refine zk 5 rfl (WP.block (zK 9 rfl (zc rfl (xp hT hR oQ hN J hM (s.ae [1])) ?_)))
 rintro v h (⟨fM,rfl,s,hd⟩|⟨w2,u2,fM,rfl,jW,jg,s⟩)
 ·skip
  refine zk 12 rfl (zB rfl aE (by decide) ?_)
  exact zk 8 rfl (WP.ret ⟨aa,_,rfl,.inl ⟨fM,rfl,s.del 1,hd⟩⟩)
 refine zk 12 rfl (zC rfl aE (rfl) (zk 6 rfl (zo rfl (aN rfl rfl rfl (aW aK (s.aD (k:=0) rfl (bk _ _)))) ?_)))
 rw[hM]
 refine zk 2 rfl (WP.block ?_)
 refine Rl hT (s.buf (k:=0) rfl).view hM (by omega) h1 I.hi 375 0 _ _ (by omega) ⟨rfl,rfl,rfl,rfl,rfl,rfl,rfl,aa⟩ (fun E' hE => ?_)
 refine WP.has hE (zr rfl (zb rfl (by exact bC (aB (by omega) (by omega))) ?_))
 refine zm rfl (zv (WP.loop (zg rfl (zh rfl (aA rfl rfl bh) (by decide) ?_))))
 exact zk 3 rfl (WP.exit (zK 5 rfl (WP.ret ⟨aa,_,rfl,.inr ⟨fM,rfl,jW,hR.tr jD jg,((s.ae [2]).del 3 |>.del 2).del 1⟩⟩)))
theorem Z_ (hT:W told)(hR:xn told N lv dd sm rv A pg)(eY:lv ε)(hN:2≤N)(hp:fI n R M (pg ε))(hi:i<n)(s:Sat h (A ε::S)):
  Call ⟨Tryz.prog,told⟩ 57 [rv,.int .i64 (i:Int)] h fun v h'=>(∃af,v=.bf [.bool false,.int .i64 9]∧Sat h' (A af::S)∧dd af)∨∃af,v=.bf [.bool (bt M i),.int .i64 0]∧lv af∧sm ε af∧Sat h' (A af::S):=by
 obtain⟨kd,lk,mJ,xq⟩:=hp.marks
 have hM:=hp.ml
 have qA:=hp.n2
 refine Call.of_wp (hT.free _ rfl) Tryz.func57 rfl rfl (zK 9 rfl (zo rfl (aA (r:=.int .i64 0) rfl rfl (Ou (by omega))) ?_))
 refine zc rfl (xp hT hR eY hN xq hM s) ?_
 rintro v h (⟨I,rfl,s,hd⟩|⟨w2,u2,I,rfl,J,jg,s⟩)
 ·skip
  refine zk 12 rfl (zB rfl aE (by decide) ?_)
  exact zk 8 rfl (WP.ret ⟨aa,_,rfl,.inl ⟨I,rfl,s,hd⟩⟩)
 have hb:M[i/8]?=some (M[i/8]'(by omega)):=bx _
 have lR:M.getD (i/8) 0=M[i/8]'(by omega):=by grind
 generalize (M[i/8]'(by omega))=x at hb lR
 have hv:=(s.buf (k:=0) rfl).view
 have hx:x<256:=hv.1 x (bD hb)
 have AR:x.testBit (i%8)=bt M i:=by rw[bt,lR]
 obtain⟨id,off,e1,e2⟩:=eU hv hb
 have VL:x/2^(i%8)<256:=EO (ue _ _) hx
 refine zk 12 rfl (zC rfl aE (rfl) (zk 7 rfl (zb rfl (Ov (by omega)) ?_)))
 refine zb rfl (yB (a:=i) (b:=8) (by decide) (by omega)) ?_
 refine zo rfl (cK (r:=.ptr id off) rfl rfl e1) (zl rfl e2 (zm rfl (zb rfl (Ov (by omega)) ?_)))
 refine zb rfl (CH (a:=i) (b:=8) (by decide)) ?_
 refine zb rfl (Rg (a:=x) (k:=i%8) (by omega)) ?_
 refine zb rfl (Rh (b:=1) VL (by decide)) ?_
 refine zo rfl (aA (r:=.bool (bt M i)) rfl rfl (by rw[←AR];exact JJ)) ?_
 exact zk 3 rfl (WP.ret ⟨aa,_,rfl,.inr ⟨I,rfl,J,jg,(s.ae [2]).del 2 |>.del 1⟩⟩)
end
def SA (a p q r:Nat)(op:V)(data:List Nat)(aC:Nat)(ε:aX): aL:=star [ew a p q r op data aC,dO r p q ε.1,b7 q p ε.2.1,aS p ε.2.2]
def GA (g a p q r:Nat)(data:List Nat)(aC:Nat)(now:List (Int×List Nat))(ε:aX): aL:=star [gC g a now false,ew a p q r (.ptr g 0) data aC,dO r p q ε.1,b7 q p ε.2.1,aS p ε.2.2]
def pgG (now:List (Int×List Nat))(ε:aX)(n:Int): List Nat:=match lookL n now with
 |some b=>b
 |none=>pgA ε n
theorem aaa (h:Sm N ε af): pgG now af=pgG now ε:=by
 funext n
 unfold pgG
 rw[h.1]
theorem jt {i:Int}: pgG (cD i b now) ε n=if i=n then b else pgG now ε n:=by
 grind[pgG,gL]
section
variable {told:cR} {n p:Nat} {v y op:V} {kd:Nat} {sm:aX→aX→Prop}
theorem JK (hT:W told)(hB:B≤2000): tG told N B (.iface 24 (.ptr a 0)) (SA a p q r op data aC) pgA:=by
 refine⟨⟨_,_,_,rfl,XC,fun {h S ε n} I h0 h1 s => ?_⟩,fun hs=>hs.1⟩
 have u9:=I.bM
 have Cc:=kD (ε:=ε)
 have s:=bn.1 s
 refine(CL hT (n:=n) s I.ok.ok I.ok.pins (by omega)).mono ?_
 rintro v h ⟨e,b,af,J,hs⟩
 obtain⟨k1,k2,k3,k4⟩:=J.ec I.ec I.ok.pins
 obtain⟨rfl,rfl⟩:=k3 h0 h1
 rcases hs with⟨he,_⟩|⟨_,u,rfl,s⟩
 ·omega
 ·have s2:Sat h (SA a p q r op data aC af::aQ u (pgA ε n)::S):=bn.2 (s.ae [1,1,1,1,0])
  exact⟨u,af,rfl,I.rd J,⟨k2,fun P hP hv=>hP.rd J I.ec hv,J.bM⟩,s2.ae [1]⟩
theorem aab (hT:W told)(hB:B≤2000)(hw:NW N now): tG told N B (.iface 26 (.ptr g 0)) (GA g a p q r data aC now) (pgG now):=by
 refine⟨⟨_,_,_,rfl,FJ,fun {h S ε n} I h0 h1 s => ?_⟩,fun hs m=>by rw[aaa hs]⟩
 have u9:=I.bM
 have Cc:=kD (ε:=ε)
 have s:=bn.1 s
 refine(yo hT (n:=n) s I.ok (by omega) (fun e he=>eB (hw.good e he).1)).mono ?_
 rintro v h ⟨e,b,af,J,hs⟩
 obtain⟨k1,k2,k3,k4⟩:=J.ec I.ec I.ok.pins
 obtain⟨rfl,hb⟩:=k3 h0 h1
 have hb:b=pgG now ε n:=hb
 subst hb
 rcases hs with⟨he,_⟩|⟨_,u,rfl,s⟩
 ·omega
 ·have s2:Sat h (GA g a p q r data aC now af::aQ u (pgG now ε n)::S):=bn.2 (s.ae [1,1,1,1,1,0])
  exact⟨u,af,rfl,I.qF J,⟨k2,fun P hP hv=>hP.qF J I.ec hv,J.bM⟩,s2.ae [1]⟩
theorem Ox (hT:W told)(hB:B≤2000)(I:EI N B ε)(hw:NW N now)(hi:i<N)(s:Sat h (GA g a p q r data aC now ε::X::S))(hX:cL X (cQ x b))(hp:dR b kd link extra cs):
  Call ⟨Tryz.prog,told⟩ 49 [.ptr g 0,.int .i64 (i:Int),x] h fun v h'=>∃af,v=.int .i64 0∧EI N B af∧Sm N ε af∧NW N (cD (i:Int) b now)∧Sat h' (GA g a p q r data aC (cD (i:Int) b now) af::X::S):=by
 have u9:=I.bM
 have Cc:=kD (ε:=ε)
 have hlen:=hp.len
 have hb:=(s.aD (k:=1) rfl hX).1
 have s:=bn.1 s
 refine(GN hT (n:=(i:Int)) s hX (by omega) I.ok (by omega) (fun e he=>eB (hw.good e he).1)).mono ?_
 rintro v h ⟨e,bL,af,J,rfl,s⟩
 obtain⟨k1,k2,k3,k4,k5⟩:=J.ec I.ec I.ok.pins
 obtain⟨rfl,rfl⟩:=k5 (by omega) (by omega) hp.good
 exact⟨af,rfl,I.y5 J,⟨k2,fun P hP hv=>hP.y5 J I.ec hv,J.bM⟩,hw.put (by omega) (by omega) hp.good hb,bn.2 s⟩
structure Mo (told:cR)(N:Nat)(lv dd:aX→Prop)(sm:aX→aX→Prop): Prop where
 rf:∀a:aX,sm a a
 tr:∀ {a b c:aX},sm a b→sm b c→sm a c
 pg:∀ {a b:aX},sm a b→∀m,pgA b m=pgA a m
 gr:∀ {g a p q r aC:Nat} {data:List Nat} {now:List (Int×List Nat)},NW N now→xn told N lv dd sm (.iface 26 (.ptr g 0)) (GA g a p q r data aC now) (pgG now)
 gw:∀ {h:H} {S:List aL} {X:aL} {g a p q r aC i kd link extra:Nat} {data b:List Nat} {now:List (Int×List Nat)} {x:V} {cs:List (List Nat)} {ε:aX},lv ε→NW N now→i<N→Sat h (GA g a p q r data aC now ε::X::S)→cL X (cQ x b)→dR b kd link extra cs →
  Call ⟨Tryz.prog,told⟩ 49 [.ptr g 0,.int .i64 (i:Int),x] h fun v h'=>(∃af,v=.int .i64 9∧Sat h' (GA g a p q r data aC now af::X::S)∧dd af)∨∃af,v=.int .i64 0∧lv af∧sm ε af∧NW N (cD (i:Int) b now)∧Sat h' (GA g a p q r data aC (cD (i:Int) b now) af::X::S)
 dr:∀ {h:H} {S:List aL} {g a p q r aC:Nat} {data:List Nat} {now:List (Int×List Nat)} {ε:aX} {n:Int},dd ε→NW N now→Sat h (GA g a p q r data aC now ε::S) →
  Call ⟨Tryz.prog,told⟩ 76 [.ptr g 0,.int .i64 n] h fun v h'=>∃(w:V) (e:Int) (af:aX),v=.bf [w,.int .i64 e]∧dd af∧Sat h' (GA g a p q r data aC now af::S)
theorem Mo.live (J:W told)(hB:B≤2000): Mo told N (EI N B) noD (Sm N) :=
 ⟨Sm.refl N,Sm.trans,fun h=>h.1,fun hw=>(aab J hB hw).m,fun I hw hi s hX hp=>(Ox J hB I hw hi s hX hp).mono fun _ _ k=>.inr k,fun hd=>hd.elim⟩
theorem Mo.pgG (I:Mo told N lv dd sm)(h:sm ε af): Am.pgG now af=Am.pgG now ε:=by
 funext n
 unfold Am.pgG
 rw[I.pg h]
def y6 (N g a p q r:Nat)(data:List Nat)(aC:Nat)(dd:aX→Prop)(S:List aL)(h:H): Prop:=∃(ε:aX) (now:List (Int×List Nat)),NW N now∧Sat h (GA g a p q r data aC now ε::S)∧dd ε
theorem fI.put {P:Int→List Nat}(h:fI N R M P){M':List Nat}{P':Int→List Nat}(I:P' 0=P 0)(J:∃kd lk ex,dR (P' 1) kd lk ex [M'])(hl:M'.length=375)(ho:∀j,j<2→bt M' j=true)(hh:∀j,N≤j→bt M' j=false): fI N R M' P' :=
 ⟨by rw[I];exact h.head,h.rl,J,hl,h.n1,h.n2,ho,hh⟩
theorem CN {i:Int}: ∀ {now:List (Int×List Nat)},(cD i b now).length≤now.length+1:=by
 intro now
 induction now<;>grind[cD]
theorem Rn (hT:W told)(hM:Mo told N lv dd sm)(eY:lv ε)(hw:NW N now)(hp:fI N R M (pgG now ε))(hi:i<N)(gW:2≤i){bl:Bool}(s:Sat h (GA g a p q r data aC now ε::S)):
  Call ⟨Tryz.prog,told⟩ 52 [.ptr g 0,.int .i64 (i:Int),.bool bl] h fun v h'=>(v=.int .i64 9∧y6 N g a p q r data aC dd S h')∨∃af bL,v=.int .i64 0∧lv af∧sm ε af∧NW N bL∧bL.length≤now.length+1∧fI N R (if bl then Ej M i else JF M i) (pgG bL af)∧(∀m,m≠1→pgG bL af m=pgG now ε m) ∧
   Sat h' (GA g a p q r data aC bL af::S):=by
 obtain⟨kd,lk,mJ,xq⟩:=hp.marks
 have Ro:=hp.ml
 have qA:=hp.n2
 have hi8:i/8<M.length:=by omega
 have hb:M[i/8]?=some (M[i/8]'(by omega)):=bx _
 have lR:M.getD (i/8) 0=M[i/8]'(by omega):=by grind
 generalize (M[i/8]'(by omega))=z at hb lR
 -- what is so behind it
 have fin:∀ {af:aX} {b':List Nat} {M':List Nat},sm ε af→dR b' kd lk mJ [M']→M'.length=375→(∀j,bt M' j=if j=i then bl else bt M j)→fI N R M' (pgG (cD 1 b' now) af)∧(∀m,m≠1→pgG (cD 1 b' now) af m=pgG now ε m):=fun {af b' M'} hs I hl AR =>
  ⟨hp.put (by rw[jt,ak (by decide),hM.pgG hs]) ⟨_,_,_,by rw[jt,aP rfl];exact I⟩ hl (fun j hj=>by rw[AR,ak (by omega)];exact hp.own j hj) (fun j hj=>by rw[AR,ak (by omega)];exact hp.hi j hj),
   fun m hm=>by rw[jt,ak (by omega),hM.pgG hs]⟩
 refine Call.of_wp (hT.free _ rfl) Tryz.func52 rfl rfl (zK 7 rfl (zo rfl (qS rfl (mki_of lu rfl)) (zm rfl (zo rfl (aA (r:=.int .i64 0) rfl rfl (Ou (by omega))) ?_))))
 refine zc rfl (xp hT (hM.gr hw) eY (by omega) xq Ro s) ?_
 rintro v h (⟨fM,rfl,s,hd⟩|⟨w2,u2,fM,rfl,jW,jg,s⟩)
 ·skip
  refine zk 12 rfl (zB rfl aE (by decide) ?_)
  exact zk 7 rfl (WP.ret ⟨aa,_,rfl,.inl ⟨rfl,fM,now,hw,s,hd⟩⟩)
 have hv:=(s.buf (k:=0) rfl).view
 have hz:z<256:=hv.1 z (bD hb)
 have h2k:2^(i%8)<256:=wk (a:=2) (n:=8) (by decide) (by omega)
 obtain⟨id,off,e1,e2⟩:=eU hv hb
 refine zk 12 rfl (zC rfl aE (rfl) (zk 6 rfl (zb rfl (Ov (by omega)) ?_)))
 refine zb rfl (CH (a:=i) (b:=8) (by decide)) ?_
 refine zb rfl (Z7 (k:=i%8) (by omega)) ?_
 refine zk 6 rfl (zb rfl (Ov (by omega)) ?_)
 refine zb rfl (yB (a:=i) (b:=8) (by decide) (by omega)) ?_
 refine zk 6 rfl ?_
 cases bl with
 |true =>
  obtain⟨JL,CO,e3,h4,e4,s2⟩:=nE s (i:=i/8) (b:=Nat.lor z (2^(i%8))) (by omega) (Rf hz (by omega))
  have ee:V.ptr id off=V.ptr JL CO:=by grind
  rw[←ee] at e4
  refine zK 4 rfl (zo rfl (cK (r:=.ptr id off) rfl rfl e1) (zl rfl e2 (zm rfl (zb rfl (abC hz (by omega)) ?_))))
  refine zo rfl (cK (r:=.ptr id off) rfl rfl e1) (zS rfl (⟨h4,e4,s2⟩) ?_)
  rintro h s
  rw[←lR] at s
  have s:Sat h (aQ u2 (Ej M i)::_):=s
  refine zk 6 rfl (zc rfl (MH (i:=0) (c:=M) hT (s.ae [1,0]) (bk _ _) (bk _ _) xq rfl MK) ?_)
  rintro v h ⟨w3,b',rfl,I,s⟩
  refine zk 9 rfl (zC rfl aE (rfl) (zk 7 rfl (zo rfl (aA (r:=.int .i64 0) rfl rfl (Ou (by omega))) ?_)))
  refine zb rfl (by exact bC (aB (by omega) (by omega))) ?_
  refine zm rfl (zc rfl (hM.gw (i:=1) jW hw (by omega) (s.ae [3,0]) (bk _ _) I) ?_)
  rintro v h (⟨J,rfl,s,hd⟩|⟨J,rfl,vC,lS,vb,s⟩)
  ·skip
   exact zk 2 rfl (WP.ret ⟨aa,_,rfl,.inl ⟨rfl,J,now,hw,((s.ae [0]).del 3 |>.del 2).del 1,hd⟩⟩)
  refine zk 2 rfl (WP.ret ⟨aa,_,rfl,?_⟩)
  obtain⟨f1,f2⟩:=fin (hM.tr jg lS) I (by rw[MK];exact Ro) (fun j=>VW hi8)
  exact .inr ⟨J,_,rfl,vC,hM.tr jg lS,vb,CN,f1,f2,((s.ae [0]).del 3 |>.del 2).del 1⟩
 |false =>
  obtain⟨JL,CO,e3,h4,e4,s2⟩:=nE s (i:=i/8) (b:=Nat.land z (255-2^(i%8))) (by omega) (FP hz)
  have ee:V.ptr id off=V.ptr JL CO:=by grind
  rw[←ee] at e4
  refine zK 4 rfl (zo rfl (cK (r:=.ptr id off) rfl rfl e1) (zl rfl e2 (zm rfl (zb rfl (Ri hz h2k) (zo rfl (cK (r:=.ptr id off) rfl rfl e1) (zS rfl (⟨h4,e4,s2⟩) ?_))))))
  rintro h s
  rw[←lR] at s
  have s:Sat h (aQ u2 (JF M i)::_):=s
  refine zk 6 rfl (zc rfl (MH (i:=0) (c:=M) hT (s.ae [1,0]) (bk _ _) (bk _ _) xq rfl ML) ?_)
  rintro v h ⟨w3,b',rfl,I,s⟩
  refine zk 9 rfl (zC rfl aE (rfl) (zk 7 rfl (zo rfl (aA (r:=.int .i64 0) rfl rfl (Ou (by omega))) ?_)))
  refine zb rfl (by exact bC (aB (by omega) (by omega))) ?_
  refine zm rfl (zc rfl (hM.gw (i:=1) jW hw (by omega) (s.ae [3,0]) (bk _ _) I) ?_)
  rintro v h (⟨J,rfl,s,hd⟩|⟨J,rfl,vC,lS,vb,s⟩)
  ·skip
   exact zk 2 rfl (WP.ret ⟨aa,_,rfl,.inl ⟨rfl,J,now,hw,((s.ae [0]).del 3 |>.del 2).del 1,hd⟩⟩)
  refine zk 2 rfl (WP.ret ⟨aa,_,rfl,?_⟩)
  obtain⟨f1,f2⟩:=fin (hM.tr jg lS) I (by rw[ML];exact Ro) (fun j=>VX hi8)
  exact .inr ⟨J,_,rfl,vC,hM.tr jg lS,vb,CN,f1,f2,((s.ae [0]).del 3 |>.del 2).del 1⟩
theorem XQ (hT:W told)(J:Mo told N lv dd sm)(eY:lv ε)(hw:NW N now)(hp:fI N R M (pgG now ε)){lo:Nat}(va:lo<N)(h0:bt M lo=false)(h1:∀j,j<lo→bt M j=true)(s:Sat h (GA g a p q r data aC now ε::S)):
  Call ⟨Tryz.prog,told⟩ 22 [.ptr g 0] h fun v h'=>(v=.bf [.int .i64 0,.int .i64 9]∧y6 N g a p q r data aC dd S h')∨∃af bL,v=.bf [.int .i64 (lo:Int),.int .i64 0]∧lv af∧sm ε af∧NW N bL∧bL.length≤now.length+2∧fI N R (Ej M lo) (pgG bL af)∧(∀m,m≠1→m≠(lo:Int)→pgG bL af m=pgG now ε m)∧dR (pgG bL af lo) 0 0 0 []∧pgG bL af lo=yy 0 ∧
   Sat h' (GA g a p q r data aC bL af::S):=by
 have qX:=hp.n1
 have h2:2≤lo:=by
  rcases qh lo 2 with hq|hq
  ·rw[hp.own lo hq] at h0;cases h0
  ·exact hq
 refine Call.of_wp (hT.free _ rfl) Tryz.func22 rfl rfl (zK 8 rfl (zo rfl (qS rfl (mki_of lu rfl)) (zc rfl (Ui hT (J.gr hw) eY (by omega) hp va h0 h1 s) ?_)))
 rintro v h (⟨pG,rfl,s,hd⟩|⟨pG,rfl,oQ,jD,s⟩)
 ·skip
  refine zk 7 rfl (WP.block (zK 3 rfl (zB rfl aE (by decide) ?_)))
  exact zk 9 rfl (WP.ret ⟨aa,_,rfl,.inl ⟨rfl,pG,now,hw,s,hd⟩⟩)
 have xq:fI N R M (pgG now pG):=by rw[J.pgG jD];exact hp
 refine zk 7 rfl (WP.block (zK 3 rfl (zC rfl aE (rfl) (zk 6 rfl (zC rfl bh (by simp) ?_)))))
 refine za rfl (zv (zj rfl (WP.skip (zw (zg rfl (zk 2 rfl (zc rfl (Rn (bl:=true) hT J oQ hw xq va h2 s) ?_)))))))
 rintro v h (⟨rfl,hd⟩|⟨fM,ov,rfl,jW,jg,kG,iW,I,GJ,s⟩)
 ·skip
  refine zk 5 rfl (zB rfl aE (by decide) ?_)
  exact zk 8 rfl (WP.ret ⟨aa,_,rfl,.inl ⟨rfl,hd⟩⟩)
 refine za rfl (zv (zg rfl (zm rfl (zh rfl (aA rfl rfl aE) (rfl) (zv (zj rfl (WP.skip (zg rfl (zc rfl (GU (kd:=0) hT s (by decide)) ?_)))))))))
 rintro v h ⟨u,rfl,s⟩
 have nU:dR (yy 0) 0 0 0 []:=dR.new (k:=0)
 generalize hbn:yy 0=b' at s nU
 refine zk 12 rfl (zc rfl (J.gw (i:=lo) jW kG va (s.ae [1,0]) (bk _ _) nU) ?_)
 rintro v h (⟨tW,rfl,s,hd⟩|⟨tW,rfl,vC,lS,vb,s⟩)
 ·skip
  refine zk 5 rfl (zB rfl aE (by decide) ?_)
  exact zk 8 rfl (WP.ret ⟨aa,_,rfl,.inl ⟨rfl,tW,ov,kG,s.del 1,hd⟩⟩)
 refine zk 5 rfl (zC rfl aE (rfl) (zk 9 rfl (WP.ret ⟨aa,_,rfl,?_⟩)))
 have I:fI N R (Ej M lo) (pgG ov fM):=I
 refine .inr ⟨tW,_,rfl,vC,J.tr (J.tr jD jg) lS,vb,bX CN (by omega),I.put (by rw[jt,ak (by omega),J.pgG lS]) ?_ I.ml I.own I.hi,fun m Aq BS=>by rw[jt,ak (by omega),J.pgG lS,GJ m Aq,J.pgG jD],by grind[jt],by rw[jt,aP rfl],s.del 1⟩
 rw[jt,ak (by omega),J.pgG lS]
 exact I.marks
theorem Uj (hT:W told)(hM:Mo told N lv dd sm)(eY:lv ε)(hw:NW N now)(hp:fI N R M (pgG now ε))(h1:∀j,j<N→bt M j=true)(s:Sat h (GA g a p q r data aC now ε::S)):
  Call ⟨Tryz.prog,told⟩ 22 [.ptr g 0] h fun v h'=>(v=.bf [.int .i64 0,.int .i64 9]∧y6 N g a p q r data aC dd S h')∨∃af,v=.bf [.int .i64 0,.int .i64 7]∧lv af∧sm ε af∧Sat h' (GA g a p q r data aC now af::S):=by
 have qX:=hp.n1
 refine Call.of_wp (hT.free _ rfl) Tryz.func22 rfl rfl (zK 8 rfl (zo rfl (qS rfl (mki_of lu rfl)) (zc rfl (Rm hT (hM.gr hw) eY (by omega) hp h1 s) ?_)))
 rintro v h (⟨I,rfl,s,hd⟩|⟨I,rfl,J,jD,s⟩)
 ·skip
  refine zk 7 rfl (WP.block (zK 3 rfl (zB rfl aE (by decide) ?_)))
  exact zk 9 rfl (WP.ret ⟨aa,_,rfl,.inl ⟨rfl,I,now,hw,s,hd⟩⟩)
 refine zk 7 rfl (WP.block (zK 3 rfl (zC rfl aE (rfl) (zk 6 rfl (zB rfl bh (by decide) ?_)))))
 exact zk 8 rfl (WP.ret ⟨aa,_,rfl,.inr ⟨I,rfl,J,jD,s⟩⟩)
theorem XR (hT:W told)(hM:Mo told N lv dd sm)(eY:lv ε)(hw:NW N now)(hp:fI N R M (pgG now ε)){i:Int}(s:Sat h (GA g a p q r data aC now ε::S)):
  Call ⟨Tryz.prog,told⟩ 24 [.ptr g 0,.int .i64 i] h fun v h'=>(v=.int .i64 9∧y6 N g a p q r data aC dd S h')∨∃af bL,lv af∧sm ε af∧NW N bL∧bL.length≤now.length+1∧Sat h' (GA g a p q r data aC bL af::S) ∧
   ((¬(2≤i∧i<N∧bt M i.toNat=true)∧v=.int .i64 18∧bL=now)∨(2≤i∧i<N∧bt M i.toNat=true∧v=.int .i64 0∧fI N R (JF M i.toNat) (pgG bL af)∧∀m,m≠1→pgG bL af m=pgG now ε m)):=by
 obtain⟨ex,sF⟩:=hp.head
 have qX:=hp.n1
 have qA:=hp.n2
 refine Call.of_wp (hT.free _ rfl) Tryz.func24 rfl rfl (zK 7 rfl (zo rfl (qS rfl (mki_of lu rfl)) (zc rfl (Ei hT (hM.gr hw) eY (by omega) sF hp.rl s) ?_)))
 rintro v h (⟨pG,rfl,s,hd⟩|⟨u,pG,rfl,oQ,J,s⟩)
 ·skip
  refine zk 9 rfl (WP.block (zK 3 rfl (zB rfl aE (by decide) ?_)))
  exact zk 8 rfl (WP.ret ⟨aa,_,rfl,.inl ⟨rfl,pG,now,hw,s,hd⟩⟩)
 have xq:fI N R M (pgG now pG):=by rw[hM.pgG J];exact hp
 refine zk 9 rfl (WP.block (zK 3 rfl (zC rfl aE (rfl) (zk 7 rfl (zc rfl (xo hT (by omega) (by omega)) ?_)))))
 rintro v h' ⟨rfl,rfl⟩
 by_cases va:i<2
 ·skip
  refine zB rfl bh (by grind) ?_
  exact zk 12 rfl (WP.ret ⟨aa,_,rfl,.inr ⟨pG,now,oQ,J,hw,kQ _,s.drop,.inl ⟨by omega,rfl,rfl⟩⟩⟩)
 ·skip
  refine zC rfl bh (by grind) ?_
  refine zk 3 rfl ?_
  by_cases hhi:(N:Int)≤i
  ·skip
   refine zB rfl oa (by grind) ?_
   exact zk 8 rfl (WP.ret ⟨aa,_,rfl,.inr ⟨pG,now,oQ,J,hw,kQ _,s.drop,.inl ⟨by omega,rfl,rfl⟩⟩⟩)
  ·skip
   refine zC rfl oa (by grind) ?_
   obtain⟨k,rfl⟩:∃k:Nat,i=k:=⟨i.toNat,by omega⟩
   refine zk 2 rfl (zv (zj rfl (WP.skip (zg rfl (zm rfl (zo rfl (qS rfl (mki_of lu rfl)) (zm rfl (zc rfl (Z_ (i:=k) hT (hM.gr hw) oQ (by omega) xq (by omega) (s.ae [1])) ?_))))))))
   rintro v h (⟨fM,rfl,s,hd⟩|⟨fM,rfl,jW,jg,s⟩)
   ·skip
    refine zk 7 rfl (WP.block (zK 3 rfl (zB rfl aE (by decide) ?_)))
    exact zk 8 rfl (WP.ret ⟨aa,_,rfl,.inl ⟨rfl,fM,now,hw,s.del 1,hd⟩⟩)
   have Mw:fI N R M (pgG now fM):=by rw[hM.pgG jg];exact xq
   refine zk 7 rfl (WP.block (zK 3 rfl (zC rfl aE (rfl) (zk 6 rfl (zo rfl (er rfl rfl) (zk 2 rfl ?_))))))
   cases hb:bt M k with
   |false =>
    exact zK 5 rfl (WP.ret ⟨aa,_,rfl,.inr ⟨fM,now,jW,hM.tr J jg,hw,kQ _,s.del 1,.inl ⟨fun⟨_,_,q⟩=>(by grind),rfl,rfl⟩⟩⟩)
   |true =>
    refine zj rfl (WP.skip (zg rfl (zk 2 rfl (zc rfl (Rn (bl:=false) hT hM jW hw Mw (i:=k) (by omega) (by omega) s) ?_))))
    rintro v h (⟨rfl,tW,I,vb,s,hd⟩|⟨tW,I,rfl,vC,lS,vb,hl3,hp3,ho3,s⟩)
    ·skip
     exact zk 2 rfl (WP.ret ⟨aa,_,rfl,.inl ⟨rfl,tW,I,vb,s.del 1,hd⟩⟩)
    refine zk 2 rfl (WP.ret ⟨aa,_,rfl,?_⟩)
    have hp3:fI N R (JF M k) (pgG I tW):=hp3
    exact .inr ⟨tW,I,vC,hM.tr (hM.tr J jg) lS,vb,hl3,s.del 1,.inr ⟨by omega,by omega,by grind,rfl,by grind,fun m hm=>by rw[ho3 m hm,hM.pgG jg,hM.pgG J]⟩⟩
end
end Go.Proofs.YtefepnnfphdkpaaGreat.Am
