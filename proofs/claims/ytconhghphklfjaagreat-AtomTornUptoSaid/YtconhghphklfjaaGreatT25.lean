/- AtomTorn: a part of its proof; conditions: its statement's. -/
import Derived.Test.YtconhghphklfjaaGreatT24
set_option linter.defProp false
namespace Go.Proofs.YtconhghphklfjaaGreat.Am
open Go
def uQ:=@Tryz.underlying27
def HV:=@Tryz.func76
def ot : V→Bool
 | .agg [_,.bool b]=>b
 | _=>true
def lQ (seen:List Nat)(e:Int×V×Nat): Bool := !inL seen e.2.2||ot e.2.1
theorem Me {seen:List Nat}: ∀ {l:bX},leftV seen ((l.filter (lQ seen)).map eB)=leftV seen (l.map eB):=by
 intro l
 induction l with
 | nil=>rfl
 | cons e l I =>
  have hm:(eB e).2.2=e.2.2:=rfl
  rw [tG]
  by_cases hs:inL seen e.2.2=true
  ·by_cases J:lQ seen e=true
   ·rw [aj J]
    simp only [bI,leftV,hm,hs,ag]
    exact I
   ·rw [af J]
    simp only [bI,leftV,hm,hs,ag]
    exact I
  ·have hs:inL seen e.2.2=false:=by simpa using hs
   rw [aj (by simp [lQ,hs])]
   simp only [bI,leftV,hm,hs,ay]
   rw [I]
theorem Mf {seen:List Nat}{b:Nat}: ∀ {l:bX},(∀e∈l,e.2.2≠b)→leftV (seen++[b]) (l.map eB)=leftV seen (l.map eB):=by
 intro l
 induction l with
 | nil=>intro _; rfl
 | cons e l J =>
  intro h
  have hm:(eB e).2.2=e.2.2:=rfl
  simp only [bI,leftV,hm,mF,cS (jo (h e br)),rz]
  rw [J fun U I=>h U (bp _ I)]
theorem Mg {seen:List Nat}{c:Nat}: ∀ {l:bX} {b:Nat} {e:Int×V×Nat},fc c b l→e∈l→inL seen e.2.2=false→(leftV (seen++[e.2.2]) (l.map eB)).length+1=(leftV seen (l.map eB)).length:=by
 intro l
 induction l with
 | nil=>intro b e _ he; cases he
 | cons y l U =>
  intro b e I he hs
  have hm:(eB y).2.2=y.2.2:=rfl
  rcases List.mem_cons.1 he with rfl | he
  ·simp only [bI,leftV,hm,mF,hs,dx,Bool.or_true,ag,ay,bl]
   rw [Mf fun e' J=>by have:=o_ I.2.2 e' J; omega]
  ·have:=o_ I.2.2 e he
   have:=U I.2.2 he hs
   simp only [bI,leftV,hm,mF,cS (show e.2.2≠y.2.2 by omega),rz]
   cases inL seen y.2.2
   ·simp only [ay,bl]; omega
   ·simp only [ag]; omega
theorem Q1 {seen:List Nat}: ∀ {l:bX},(∀e∈l,inL seen e.2.2=true)→l.filter (lQ seen)=l.filter (fun e=>ot e.2.1):=by
 intro l h
 refine D3 fun e he => ?_
 simp only [lQ,h e he,AL,tM]
theorem Q2 {l:bX}: l.filter (lQ [])=l:=List.filter_eq_self.2 fun e _=>rfl
theorem Q3 {seen:List Nat}{l:bX}{e:Int×V×Nat}{c b:Nat}(U:fc c b l)(he:e∈l)(hf:ot e.2.1=true): l.filter (lQ (seen++[e.2.2]))=l.filter (lQ seen):=by
 refine D3 fun e' J => ?_
 simp only [lQ,mF]
 by_cases h:e.2.2=e'.2.2
 ·have I:=qI U he
  have h2:=qI U J
  rw [h,h2] at I
  have h3:e'.2.1=e.2.1:=by injection I with I; injection I with _ I; rw [I]
  rw [h3,hf]; simp
 ·rw [cS h,rz]
theorem Ug {n:Int}: ∀ {l:bX},(l.map (·.1)).Nodup→mR n l=l.filter (fun e=>decide (e.1≠n)):=by
 intro l
 induction l with
 | nil=>intro _; rfl
 | cons e l J =>
  intro h
  simp only [bI,mq] at h
  simp only [mR,tG]
  by_cases he:e.1=n
  ·rw [aj he,af (by simp [he])]
   symm
   refine List.filter_eq_self.2 fun e' I => ?_
   simp only [jZ,dZ]
   intro U
   exact h.1 (by rw [he,←U]; exact iV (f:=(·.1)) I)
  ·rw [af he,aj (by simp [he]),J h.2]
theorem Uh {seen:List Nat}{l:bX}{e:Int×V×Nat}{c b:Nat}(hb:fc c b l)(hn:(l.map (·.1)).Nodup)(he:e∈l)(hf:ot e.2.1=false)(hs:inL seen e.2.2=false):
  l.filter (lQ (seen++[e.2.2]))=mR e.1 (l.filter (lQ seen)):=by
 rw [Ug (hn.sublist ((List.filter_sublist).map _)),List.filter_filter]
 refine D3 fun J ym => ?_
 simp only [lQ,mF]
 have I:e.1=J.1↔e.2.2=J.2.2:=by
  have key:∀ {l:bX} {b:Nat},fc c b l→(l.map (·.1)).Nodup→e∈l→J∈l→(e.1=J.1↔e.2.2=J.2.2):=by
   intro l
   induction l with
   | nil=>intro b _ _ h; cases h
   | cons y l ih =>
    intro b hb hn U h2
    simp only [bI,mq] at hn
    rcases List.mem_cons.1 U with q1 | h3 <;> rcases List.mem_cons.1 h2 with q2 | h4
    ·rw [q1,q2]; simp
    ·subst q1
     have:=o_ hb.2.2 J h4
     exact ⟨fun h=>(hn.1 (h ▸ iV (f:=fun e:Int×V×Nat=>e.1) h4)).elim,fun h=>by omega⟩
    ·subst q2
     have:=o_ hb.2.2 e h3
     exact ⟨fun h=>(hn.1 (h ▸ iV (f:=fun e:Int×V×Nat=>e.1) h3)).elim,fun h=>by omega⟩
    ·exact ih hb.2.2 hn.2 h3 h4
  exact key hb hn he ym
 by_cases h:e.2.2=J.2.2
 ·have U:=qI hb he
  have h2:=qI hb ym
  rw [h,h2] at U
  have h3:J.2.1=e.2.1:=by injection U with U; injection U with _ U; rw [U]
  rw [h3,hf,h,dx]
  have:=I.2 h
  simp [this]
 ·rw [cS h,rz]
  have:J.1≠e.1:=fun h2=>h (I.1 h2.symm)
  simp [this]
theorem Ai {c:Nat}{f:Int×V×Nat→Bool}: ∀ {l:bX} {b:Nat},fc c b l→fc c b (l.filter f):=by
 intro l
 induction l with
 | nil=>intro b h; exact h
 | cons e l I =>
  intro b h
  simp only [tG]
  split
  ·exact ⟨h.1,h.2.1,I h.2.2⟩
  ·exact C7 (by have:=h.1; omega) (I h.2.2)
section
variable {told:dM} {h:H} {S:List ax} {X:ax} {r k q p bW:Nat} {v x wh di:V} {l b:List Nat} {π:Pl} {m:List Fm} {μ:Lg} {δ:Dk}
theorem YE {P:Program}{t:TypeId}{id n:Nat}{cs l:List V}(J:T.get h.tr id=some (.cells n cs false))(hs:bJ P t=some l.length)(hl:cs.length=n)(U:l.length=n)(I:l.all storable=true):
  g6 P h t (.ptr id 0) (.agg l)=some (h.put id (some (.cells n l false))):=by
 simp only [g6,hs,V.cells,I,dx,iD,ag,wrN,J]
 rw [aQ.2 (by omega),ag,U,dx]
 rfl
theorem Ui {P:Program}{t kt et:TypeId}{k:IntKind}{id c j:Nat}{l:bX}{n:Int}{u:TypeId}(s:Sat h S)(U:getA S j=some (fG id l c))(hu:P.underlying t=some (.map kt et))(hk:P.underlying kt=some (.int k)):
  ∃v h',builtinV P h .delete #[t,u] [.map id,.int .i64 n]=some (v,h')∧(fun (_:V) (h':H)=>h'.next=h.next∧(∀i,i≠id→T.get h'.tr i=T.get h.tr i)∧Sat h' (setA S j (fG id (mR n l) c))) v h':=by
 have hg:=s.row U
 have key:∃h',m9 P h t (.map id) (.int .i64 n)=some h'∧h'.next=h.next∧(∀i,i≠id→T.get h'.tr i=T.get h.tr i)∧Sat h' (setA S j (fG id (mR n l) c)):=by
  obtain ⟨h',I,J⟩:=s.delete (n:=n) U hu hk
  refine ⟨h',I,?_⟩
  simp only [m9,hu,hk,hg,keyBeq,dK,ag,rM] at I
  cases hq:idxE n l 0 with
  | none =>
   rw [hq] at I
   simp only [au] at I
   subst I
   exact ⟨rfl,fun _ _=>rfl,J⟩
  | some q =>
   obtain ⟨i,u⟩:=q
   rw [hq] at I
   simp only [au] at I
   subst I
   exact ⟨rfl,fun i hi=>by rw [b8,af hi],J⟩
 obtain ⟨h',I,J⟩:=key
 refine ⟨.bE [],h',?_,J⟩
 simp only [builtinV,iW,I]
theorem Q4 (I:W told){n:Int}{a:Int}{b:Bool}: Call ⟨Tryz.prog,told⟩ 77 [.int .i64 n,.agg [.int .u64 a,.bool b]] h fun v h'=>v=.bool (!b)∧h'=newRow h [.int .u64 a,.bool b]:=by
 refine Call.of_wp (I.free _ rfl) Tryz.func77 rfl rfl (zg rfl (zo rfl (gL rfl rfl) (zk 4 rfl (zf rfl (Ev _ _) (zl rfl (Kh (off:=1) (n:=2) (cs:=[.int .u64 a,.bool b]) (st:=false) ke (by simp only [newRow,V.cells,f_,bQ]; rfl) rfl) ?_)))))
 exact zo rfl (dS rfl rfl) (zk 2 rfl (WP.ret ⟨aa,_,rfl,rfl,rfl⟩))
noncomputable def dfA : Code:=cM [0] ((Tryz.f76.body).getD .skip)
noncomputable def WE : Code:=cM [1,0,0,0] ((Tryz.f76.body).getD .skip)
noncomputable def ZR : Code:=cM [1,0,0,1,1,0] ((Tryz.f76.body).getD .skip)
theorem Q5 : Tryz.f76.body=some (.seq dfA (.block 0 (.loop (.seq WE (.seq (.cond (.tmp 9) .skip (.exit 0)) (.block 1 ZR)))))):=rfl
theorem Uj : ∃id I J,WE=.region id #[I,J] false∧I.guard=none∧J.guard=none∧I.op=.next (.tmp 7) false∧I.dst=some 8∧J.op=.extract (.tmp 8) 0∧J.dst=some 9:=⟨_,_,_,rfl,rfl,rfl,rfl,rfl,rfl,rfl⟩
abbrev sA : V:=.fn (.func 77) [] []
def ZS (h₀:H)(it mid clock:Nat)(es:bX)(S:List ax)(j:Nat)(E:List (Nat×V))(h:H): Prop :=
 ∃seen,Has E [(0,.map mid),(1,sA),(7,.ptr it 0)]∧j=(leftV seen (es.map eB)).length∧h.next+2*j=h₀.next+1+2*es.length∧(∀i,i<h₀.next→i≠mid→i≠it→T.get h.tr i=T.get h₀.tr i) ∧
  Sat h (pt it (.iter mid clock clock seen)::fG mid (es.filter (lQ seen)) clock::S)
theorem Q6 {h₀:H}{it mid clock:Nat}{es:bX}(BF:it<h₀.next+1)(hb:fc clock 0 es)(hn:(es.map (·.1)).Nodup)(hv:∀e∈es,∃a b,e.2.1=.agg [.int .u64 a,.bool b]){j:Nat}{E:List (Nat×V)}(h0:ZS h₀ it mid clock es S j E h):
  eL CB 19 (.loop (.seq WE (.seq (.cond (.tmp 9) .skip (.exit 0)) (.block 1 ZR)))) E h fun ex E' h'=>ex=.exit 0∧h'.next=h₀.next+1+2*es.length∧(∀i,i<h₀.next→i≠mid→i≠it→T.get h'.tr i=T.get h₀.tr i) ∧
   ∃seen,Sat h' (pt it (.iter mid clock clock seen)::fG mid (es.filter (fun e=>ot e.2.1)) clock::S):=by
 refine eL.loop (ZS h₀ it mid clock es S) ?_ h0
 rintro j E h ⟨seen,hE,rfl,I,hs,s⟩
 have g1:=s.row (k:=0) rfl
 have g2:=s.row (k:=1) rfl
 have J:=Ai (f:=lQ seen) hb
 obtain ⟨id,PL,Tr,q0,q1,q2,q3,q4,q5,q6⟩:=Uj
 refine eL.seq ?_
 rw [q0]
 have hL:=next_at g1 (aI _) g2 J
 refine eL.next ic fH q1 q2 q3 q4 q5 rfl q6 rfl rfl (r:=it) ?_ hL fun q hq => ?_
 ·exact hE.2.2.1
 ·rcases HS g1 (aI _) g2 J hL q hq with ⟨rfl,mz⟩ | ⟨e,he,SW,_,rfl⟩
  ·have YF:∀e∈es,inL seen e.2.2=true:=fun e he=>by
    cases hi:inL seen e.2.2 with
    | true=>rfl
    | false =>
     have:=mz e (List.mem_filter.2 ⟨he,by simp [lQ,hi]⟩)
     rw [hi] at this; cases this
   have xg:leftV seen (es.map eB)=[]:=by
    rw [←Me]
    rw [next_at g1 (aI _) g2 J] at hL
    cases hl:leftV seen ((es.filter (lQ seen)).map eB) with
    | nil=>rfl
    | cons y l =>
     have:=FF (e:=y) (seen:=seen) (l:=(es.filter (lQ seen)).map eB) (by rw [hl]; exact br)
     obtain ⟨e,he,rfl⟩:=List.mem_map.1 this.1
     have h2:=mz e he
     rw [show (eB e).2.2=e.2.2 from rfl,h2] at this
     cases this.2
   refine ⟨.bool false,[],rfl,?_⟩
   refine eL.seq (eL.cond (t:=false) rfl ?_)
   refine eL.of ic fH (WP.exit ?_)
   refine ⟨rfl,?_,hs,seen,?_⟩
   ·rw [xg] at I; simpa using I
   ·rw [←Q1 YF]; exact s
  ·refine ⟨.bool true,_,rfl,?_⟩
   refine eL.seq (eL.cond (t:=true) rfl ?_)
   refine eL.of ic fH (WP.skip ?_)
   refine eL.block (eL.of ic fH ?_)
   have U:=(List.mem_filter.1 he).1
   have rV:=Mg hb U SW
   have s:=s.put (o':=.iter mid clock clock (seen++[e.2.2])) (k:=0) rfl
   have hs:∀i,i<h₀.next→i≠mid→i≠it→T.get (h.put it (some (.iter mid clock clock (seen++[e.2.2])))).tr i=T.get h₀.tr i:=fun i h1 h2 h3=>by rw [b8,af h3]; exact hs i h1 h2 h3
   have I:(h.put it (some (.iter mid clock clock (seen++[e.2.2])))).next+2*(leftV seen (es.map eB)).length=h₀.next+1+2*es.length:=I
   have hle:h₀.next≤(h.put it (some (.iter mid clock clock (seen++[e.2.2])))).next:=by
    have:(leftV seen (es.map eB)).length≤(es.map eB).length:=by
     have:∀l:List (V×V×Nat),(leftV seen l).length≤l.length:=by
      intro l
      induction l with
      | nil=>exact aI _
      | cons y l ih=>simp only [leftV]; cases inL seen y.2.2 <;> simp <;> omega
     exact this _
    simp only [eu] at this
    omega
   generalize h.put it (some (.iter mid clock clock (seen++[e.2.2])))=h' at s hs I hle
   have g1:=s.row (k:=0) rfl
   have g2:=s.row (k:=1) rfl
   obtain ⟨a,b,pQ⟩:=hv e U
   have WG:=HR g1 g2 J he
   rw [pQ] at WG
   refine WP.has (F:=[(0,.map mid),(1,sA),(7,.ptr it 0),(9,.bool true)]) ⟨hE.1,hE.2.1,hE.2.2.1,rfl,aa⟩ (zg rfl (aB.any rfl rfl rfl (OpR.entry rfl rfl WG) ?_))
   rintro v h ⟨rfl,rfl⟩
   refine zk 2 rfl (zo rfl (cI xw) ?_)
   have s1:=s.new (.cells 2 [.int .u64 0,.bool false] false)
   have e1:=YE (P:=Tryz.prog) (t:=143) (l:=[.int .u64 a,.bool b]) (s1.row (k:=0) rfl) vj rfl rfl rfl
   have s2:=s1.put (o':=.cells 2 [.int .u64 a,.bool b] false) (k:=0) rfl
   refine za rfl (aB.Si rfl rfl (wD rfl rfl e1) (zk 5 rfl (zl rfl (s2.fM (k:=0) rfl LQ vj) (zc rfl (Q4 W.base (n:=e.1) (a:=a) (b:=b)) ?_))))
   rintro v h'' ⟨rfl,rfl⟩
   have s3:=s2.new (.cells 2 [.int .u64 a,.bool b] false)
   have SQ:∀i,i<h₀.next→i≠mid→i≠it→T.get (newRow ((h.new (.cells 2 [.int .u64 0,.bool false] false)).put h.next (some (.cells 2 [.int .u64 a,.bool b] false))) [.int .u64 a,.bool b]).tr i=T.get h₀.tr i:=fun i h1 h2 h3=>by
    rw [newRow,f_,af (by show i≠h.next+1; omega),b8,af (by omega),f_,af (by omega)]
    exact hs i h1 h2 h3
   refine zv ?_
   refine WP.split rfl ?_ ?_
   ·intro hq
    have Bp:b=false:=by simpa using hq
    subst Bp
    have s4:=(s3.ae [2,2])
    refine zK 3 rfl (aB.h_ rfl rfl (OpR.builtin rfl rfl rfl (Ui (n:=e.1) s4 (j:=1) rfl qD bG)) ?_)
    rintro v h5 ⟨k1,k2,k3⟩
    refine zv ?_
    refine ⟨_,?_,seen++[e.2.2],⟨rfl,rfl,rfl,aa⟩,rfl,?_,?_,?_⟩
    ·omega
    ·rw [k1]
     show h.next+1+1+_=_
     omega
    ·intro i h1 h2 h3
     rw [k2 i h2]
     exact SQ i h1 h2 h3
    ·rw [Uh hb hn U (by rw [pQ]; rfl) SW]
     exact (k3.del 3).del 2
   ·intro hq
    have Bp:b=true:=by simpa using hq
    subst Bp
    refine WP.skip ?_
    refine ⟨_,?_,seen++[e.2.2],⟨rfl,rfl,rfl,aa⟩,rfl,?_,SQ,?_⟩
    ·omega
    ·show h.next+1+1+_=_
     omega
    ·rw [Q3 hb U (by rw [pQ]; rfl)]
     exact (s3.del 1).del 0
end
def HW (args:List V)(h:H)(r:V×H): Prop:=∃(mid:Nat) (es:bX) (clock:Nat),args=[.map mid,sA]∧T.get h.tr mid=some (.map (es.map eB) clock) ∧
 r=(.bE [],⟨h.next+1+2*es.length,(h.put mid (some (.map ((es.filter (fun e=>ot e.2.1)).map eB) clock))).tr⟩)
structure W2 (told:dM): Prop where
 w:W told
 sync:told 75=some (nK Tryz.prog 75 EN)
 del:told 76=some (nK Tryz.prog 76 HW)
theorem KE : ∀ {l m:bX},l.map eB=m.map eB→l=m:=by
 intro l
 induction l with
 | nil=>intro m h; cases m with
  | nil=>rfl
  | cons _ _=>cases h
 | cons e l J=>intro m h; cases m with
  | nil=>cases h
  | cons x m =>
   simp only [bI,v7] at h
   obtain ⟨I,U⟩:=h
   rw [J U]
   obtain ⟨e1,e2⟩:=e
   obtain ⟨x1,x2⟩:=x
   simp only [eB,aP,V.int.injEq,true_and] at I
   rw [I.1,I.2]
theorem Mh {a b:PM}: ∀ {l:bX} {m:List (Int×(Nat×Bool))},(eD (fun v x=>.pu (v=.agg [.int .u64 (x.1:Int),.bool x.2])) l m).p a b →
  (eD (fun v x=>.pu (v=.agg [.int .u64 (x.1:Int),.bool x.2])) (l.filter fun e=>ot e.2.1) (m.filter fun e=>e.2.2)).p a b:=by
 intro l
 induction l with
 | nil=>intro m h; cases m with
  | nil=>exact h
  | cons _ _=>exact h.elim
 | cons e l I=>intro m h; cases m with
  | nil=>exact h.elim
  | cons x m =>
   obtain ⟨⟨h1,J⟩,U⟩:=h
   have h4:e.2.1=.agg [.int .u64 (x.2.1:Int),.bool x.2.2]:=J
   have hf:ot e.2.1=x.2.2:=by rw [h4]; rfl
   simp only [tG,hf]
   split
   ·exact ⟨⟨h1,J⟩,I U⟩
   ·exact I U
def Dk.c7 (δ:Dk): Int×Dk:=if δ.dead=true then (9,δ) else if δ.aD=0 then (9,δ.die) else (0,δ.c9.sync)
section
variable {told:dM} {h:H} {S:List ax} {X:ax} {r k q p bW:Nat} {v x wh di:V} {l b:List Nat} {π:Pl} {m:List (Int×(Nat×Bool))} {μ:Lg} {δ:Dk}
theorem uR {a b:Obj}{id:Nat}(J:T.get h.tr id=some a)(I:T.get h.tr id=some b): a=b:=by rw [J] at I; exact bx I
theorem KF (hT:W2 told)(s:Sat h (aG p δ::S))(U:δ.Ok)(hk:∀e∈δ.now,0≤e.1∧e.1<δ.aq.length): Call ⟨Tryz.prog,told⟩ 75 [.ptr p 0] h fun v h'=>v=.int .i64 δ.c7.1∧Sat h' (aG p δ.c7.2::S):=by
 obtain ⟨r,h1,h2⟩:=OH s U hk
 obtain ⟨r,h3,h4⟩:=Ag h1 h2
 refine ⟨r.1,r.2,hO.told hT.sync Ac rfl h3,?_⟩
 clear h1 h2 h3
 obtain ⟨p',cs,e1,gp',h4⟩:=h4
 injection e1 with e1 _
 injection e1 with e1 _
 subst e1
 obtain ⟨pg,wt,nw,lg,mk,tn,tl,ops,s1⟩:=bt.1 s
 have gp:=s1.row (k:=0) rfl
 have e2:=uR gp gp'
 injection e2 with _ e2 _
 subst e2
 rcases h4 with ⟨hd,rfl⟩ | ⟨hd,v1,h1,CK,h4⟩
 ·have hd:δ.dead=true:=by injection (bx hd)
  simp only [Dk.c7,aj hd]
  exact ⟨aa,s⟩
 ·have hd:δ.dead=false:=by injection (bx hd)
  obtain ⟨v2,h2,aaW,hR⟩:=mN W.base s U.aD
  obtain ⟨rfl,rfl⟩:=hO.det CK aaW
  simp only [Dk.c7,hd,eY,bN]
  rcases hR with ⟨h0,rfl,s2⟩ | ⟨h0,rfl,s2⟩
  ·rcases h4 with ⟨_,rfl⟩ | ⟨hv,_⟩
   ·rw [aj h0]; exact ⟨rfl,s2⟩
   ·cases hv
  ·rcases h4 with ⟨hv,_⟩ | ⟨_,cs,im,N,row,mid,es,clock,g0,c1,c3,g1,g2,rfl⟩
   ·cases hv
   ·rw [af h0]
    refine ⟨rfl,?_⟩
    obtain ⟨pg,wt,nw,lg,mk,tn,tl,ops,s3⟩:=bt.1 s2
    obtain ⟨ZT,row',rfl,s4⟩:=gv.1 (s3.ae [1])
    obtain ⟨J,es',I,rfl,hb,hn,s5⟩:=eF.1 (s4.ae [4])
    have s6:=s5.ae [4,2,0,0,0,0]
    have e3:=uR (s6.row (k:=0) rfl) g0
    injection e3 with _ e3 _
    subst e3
    have c1:=bx c1
    injection c1 with c1 _ c2 _
    subst c1; subst c2
    have c3:=bx c3
    injection c3 with c3
    subst c3
    have e4:=uR (s6.row (k:=1) rfl) g1
    injection e4 with _ e4 _
    subst e4
    have e5:=uR (s6.row (k:=2) rfl) g2
    injection e5 with e5 e6
    have e5:=KE e5
    subst e5; subst e6
    have s7:=s6.new (.iter J I I [])
    have s8:=s7.put (o':=.cells δ.c9.aq.length (nL es' row') false) (k:=2) rfl
    have s9:=s8.put (o':=.cells 12 (List.set (vl δ.c9.room (.sl ZT 0 δ.c9.aq.length (.exact δ.c9.aq.length)) wt (.map J) lg δ.c9.aJ mk δ.c9.aD ops δ.c9.dead tn tl) 2 .bz) false) (k:=1) rfl
    have s10:=s9.put (o':=.map [] I) (k:=3) rfl
    have s11:=s10.kill
    have s12:Sat _ (each lP row' δ.c9.aq::eD (fun v b=>.ct v b) es' δ.c9.now::_):=s11.ae [4,3]
    have s13:=s12.two (C:=each lP (nL es' row') (laidP δ.c9.now δ.c9.aq)) (aH.each aH.lP _ _) (aH.Hr (fun _ _=>aH.ct _ _) _ _) fun a b q1 q2=>Jy q2 (fun e he=>by
     have:=U.now e he
     rintro hq; rw [hq] at this; simp at this) q1
    have s14:=(eF (f:=fun v b=>.ct v b) (v:=.map J) (m:=([]:List (Int×List Nat)))).2 ⟨J,[],I,rfl,aa,kG,((s13.ae [3]).gB aa).ae [1,0]⟩
    have hlen:(laidP δ.c9.now δ.c9.aq).length=δ.c9.aq.length:=mO
    have ZU:=gv.2 ⟨ZT,nL es' row',rfl,by rw [hlen]; exact s14.ae [3,1]⟩
    rw [hlen] at ZU
    have s16:=(mM (v:=.bz) (m:=[])).2 ⟨[],((ZU.del 3).gB aa).qC⟩
    exact bt.2 ⟨_,_,_,_,_,_,_,ops,s16.ae [3,1,0,0]⟩
theorem Q7 (s:Sat h (Dg di m::S)): ∃r,HW [di,sA] h r∧∀(c:Ctx) (w:World),Rel c h w→(∀x∈[di,sA],wf c x)→fX Tryz.prog 76 [di,sA] c w r.1 r.2:=by
 obtain ⟨mid,es,clock,rfl,hb,hn,s1⟩:=eF.1 s
 have gm:=s1.row (k:=0) rfl
 obtain ⟨a,b,_,_,q3⟩:=s1.at (k:=1) rfl
 have I:=th q3
 have hv:∀e∈es,∃a b,e.2.1=.agg [.int .u64 a,.bool b]:=fun e he=>by
  obtain ⟨x,_,k2⟩:=Ah q3 e he
  exact ⟨_,_,k2⟩
 refine ⟨_,⟨mid,es,clock,rfl,gm,rfl⟩,fun c w hr ha => ?_⟩
 refine fX.Dj (C:=CB) (args:=[.map mid,sA]) HV Q5 (show 2≤Tryz.f76.ntmps by decide) ?_ hr ha
 refine eL.seq (eL.of ic fH ?_)
 have s:=s1
 refine zK 2 rfl (aB.any rfl rfl rfl (OpR.range rfl rfl (show rangeV Tryz.prog h 138 (.map mid)=some (.ptr h.next 0,h.new (.iter mid clock clock [])) by simp only [rangeV,qD,gm])) ?_)
 rintro v h' ⟨rfl,rfl⟩
 refine zv ?_
 have s7:=s.new (.iter mid clock clock [])
 refine eL.block ((Q6 (h₀:=h) (es:=es) (it:=h.next) (mid:=mid) (clock:=clock) (S:=eD (fun v (x:Nat×Bool)=>.pu (v=.agg [.int .u64 (x.1:Int),.bool x.2])) es m::S) (by omega) hb (by rw [I]; exact hn) hv ⟨[],⟨rfl,rfl,rfl,aa⟩,rfl,?_,?_,?_⟩).mono ?_)
 ·have:(leftV [] (es.map eB)).length=es.length:=by
   have:∀l:List (V×V×Nat),leftV [] l=l:=by
    intro l
    induction l with
    | nil=>rfl
    | cons y l ih=>simp only [leftV,inL,ay,ih]
   rw [this,eu]
  rw [this]
  rfl
 ·intro i J h2 h3
  rw [f_,af h3]
 ·rw [Q2]; exact s7
 ·rintro ex E' h' ⟨rfl,U,hs,seen,s'⟩
  refine ⟨aa,rfl,U.symm,fun id o ho => ?_⟩
  rw [b8] at ho
  by_cases J:id=mid
  ·rw [aj J] at ho; rw [J,s'.row (k:=1) rfl]; exact ho
  ·rw [af J] at ho
   have:=s.wf id o ho
   rw [hs id this J (by omega)]
   exact ho
theorem WH (hT:W2 told)(s:Sat h (Dg di m::S)): Call ⟨Tryz.prog,told⟩ 76 [di,sA] h fun v h'=>v=.bE []∧Sat h' (Dg di (m.filter fun e=>e.2.2)::S):=by
 obtain ⟨r,U,h2⟩:=Q7 s
 obtain ⟨r,h3,h4⟩:=Ag U h2
 refine ⟨r.1,r.2,hO.told hT.del HV rfl h3,?_⟩
 clear U h2 h3
 obtain ⟨mid,es,clock,e1,g1,rfl⟩:=h4
 injection e1 with e1 _
 subst e1
 refine ⟨rfl,?_⟩
 obtain ⟨acn,es',I,e2,hb,hn,s1⟩:=eF.1 s
 injection e2 with e2
 subst e2
 have J:=uR (s1.row (k:=0) rfl) g1
 injection J with J e4
 have J:=KE J
 subst J; subst e4
 have s2:Sat h (eD _ es' m::fG mid es' I::S):=s1.ae [1]
 have s3:=s2.fY (B:=eD (fun v x=>.pu (v=.agg [.int .u64 (x.1:Int),.bool x.2])) (es'.filter fun e=>ot e.2.1) (m.filter fun e=>e.2.2)) fun a b q=>Mh q
 have s4:=s3.put (o':=.map ((es'.filter fun e=>ot e.2.1).map eB) I) (k:=1) rfl
 have s5:=s4.cX (k:=1+2*es'.length) (h':=⟨h.next+1+2*es'.length,(h.put mid (some (.map ((es'.filter fun e=>ot e.2.1).map eB) I))).tr⟩)
  ⟨fun id o ho=>by have U:=s4.wf id o ho; have h2:(h.put mid (some (.map ((es'.filter fun e=>ot e.2.1).map eB) I))).next=h.next:=rfl; show id<h.next+1+2*es'.length; omega,
   by show h.next≤h.next+1+2*es'.length; omega,by show h.next+1+2*es'.length≤h.next+(1+2*es'.length); omega,fun _ _ _=>rfl⟩
 exact eF.2 ⟨mid,es'.filter (fun e=>ot e.2.1),I,rfl,Ai hb,hn.sublist ((List.filter_sublist).map _),s5.ae [1,0]⟩
def cH (π:Pl)(δ:Dk): Int×Pl×Dk:=if δ.c7.1≠0 then (δ.c7.1,π,δ.c7.2) else (0,{ π with aN:=π.aN.filter fun e=>e.2.2 },δ.c7.2)
theorem B9 (I:W2 told)(s:Sat h (cj r p q π::aG p δ::S))(J:δ.Ok)(U:∀e∈δ.now,0≤e.1∧e.1<δ.aq.length):
  Call ⟨Tryz.prog,told⟩ 39 [.ptr r 0] h fun v h'=>v=.int .i64 (cH π δ).1∧Sat h' (cj r p q (cH π δ).2.1::aG p (cH π δ).2.2::S):=by
 obtain ⟨bW,wh,di,s⟩:=dn.1 s
 refine Call.of_wp (I.w.free _ rfl) Tryz.func39 rfl rfl (zK 9 rfl (zf rfl (wH _ _) (zl rfl (s.ld (k:=0) rfl jL rfl) (zc rfl (KF I (s.ae [4]) J U) ?_))))
 rintro v h ⟨rfl,s⟩
 refine zk 5 rfl ?_
 by_cases he:δ.c7.1=0
 ·skip
  refine zh rfl (ah rfl rfl aV) (by simp; exact he) ?_
  refine zk 7 rfl (zf rfl (nc _ _) (zl rfl (s.ld (k:=1) rfl r6 rfl) (zc rfl (WH I (s.ae [4])) ?_)))
  rintro v h ⟨rfl,s⟩
  refine zk 5 rfl (WP.ret ⟨aa,_,rfl,?_⟩)
  rw [cH,af (by simpa using he)]
  exact ⟨rfl,(dn.2 ⟨bW,wh,di,s.ae [2,2,2,0,0]⟩)⟩
 ·skip
  refine zt rfl (ah rfl rfl aV) (by simp; exact he) ?_
  refine zk 7 rfl (WP.ret ⟨aa,_,rfl,?_⟩)
  rw [cH,aj he]
  exact ⟨rfl,(dn.2 ⟨bW,wh,di,s.ae [1,1,1,1,0]⟩)⟩
end
theorem gj.ak {π I:Pl}(J:gj π I): ∀g∈I.ak,∃f∈π.ak,∃t,g={ f with fA:=t }:=by
 intro g hg
 obtain ⟨i,hi,rfl⟩:=List.mem_iff_getElem.1 hg
 have hf:π.ak[i]?=some (π.ak[i]'(by rw [←J.len]; exact hi)):=bg _
 obtain ⟨t,U⟩:=J.get i _ hf
 rw [bg hi] at U
 exact ⟨_,pI _,t,bx U⟩
theorem gj.ok {π I:Pl}(J:gj π I)(h:π.Ok)(hh:I.hand<I.ak.length): I.Ok:=by
 refine ⟨hh,by rw [J.len]; exact h.many,by rw [J.aE,J.len]; exact h.aE,fun g U => ?_,fun g U => ?_⟩
 ·obtain ⟨f,hf,t,rfl⟩:=J.ak g U
  exact h.len f hf
 ·obtain ⟨f,hf,t,rfl⟩:=J.ak g U
  exact h.pins f hf
theorem Pl.Ok.set {π:Pl}{i:Nat}{f:Fm}{w:List (Int×Int)}{d:List (Int×(Nat×Bool))}(h:π.Ok)(hw:∀e∈w,0≤e.2∧e.2<π.ak.length)(J:f.b.length≤512)(U:0≤f.pins∧f.pins≤4294967296): Pl.Ok { π with ak:=π.ak.set i f,aE:=w,aN:=d }:=by
 refine ⟨by simp only [dD]; exact h.hand,by simp only [dD]; exact h.many,fun e he=>by simp only [dD]; exact hw e he,fun g I => ?_,fun g I => ?_⟩
 ·rcases pz I with I | rfl
  ·exact h.len g I
  ·exact J
 ·rcases pz I with I | rfl
  ·exact h.pins g I
  ·exact U
theorem Uk {α:Type}{n:Int}: ∀ {l:List (Int×α)} {e:Int×α},e∈nh n l→e∈l:=by
 intro l
 induction l with
 | nil=>intro e h; exact h
 | cons x l I =>
  intro e h
  simp only [nh] at h
  split at h
  ·exact bp _ h
  ·rcases List.mem_cons.1 h with rfl | h
   ·exact br
   ·exact bp _ (I h)
theorem Ul {α:Type}{n:Int}{x:α}: ∀ {l:List (Int×α)} {e:Int×α},e∈cN n x l→e=(n,x)∨e∈l:=by
 intro l
 induction l with
 | nil=>intro e h; simp only [cN,vU] at h; exact .inl h
 | cons y l I =>
  intro e h
  simp only [cN] at h
  split at h
  ·rcases List.mem_cons.1 h with rfl | h
   ·exact .inl rfl
   ·exact .inr (bp _ h)
  ·rcases List.mem_cons.1 h with rfl | h
   ·exact .inr br
   ·rcases I h with h | h
    ·exact .inl h
    ·exact .inr (bp _ h)
theorem B_ {π:Pl}{i:Nat}{f:Fm}(h:π.Ok): (dH π i f).Ok:=by
 unfold dH
 refine h.set (fun e he => ?_) (by simp [fe]) (by simp [fe])
 split at he
 ·exact h.aE e he
 ·exact h.aE e (Uk he)
theorem gn.ok {ε ε':aO}{n e:Int}{b:List Nat}(hr:gn ε n e b ε')(h:oB ε)(hp:∀f∈ε.1.ak,f.pins=0): oB ε':=by
 cases hr with
 | arg _=>exact h
 | BF i f h1 h2 hl hf =>
  have hm:=bw hf
  exact ⟨h.pl.set h.pl.aE (h.pl.len f hm) (by have:=hp f hm; simp only; omega),h.lg,h.dk⟩
 | out I i f h1 h2 hl J hf U he=>exact rP (ε:=(I,ε.2)) ⟨J.ok h.pl U,h.lg,h.dk⟩
 | read I i f h1 h2 hl J hf U he hr =>
  have:=rP (i:=i) (ε:=(I,ε.2)) ⟨J.ok h.pl U,h.lg,h.dk⟩
  exact ⟨B_ this.pl,this.lg,this.dk⟩
 | bad I i f h1 h2 hl J hf U he hr hc =>
  have:=rP (i:=i) (ε:=(I,ε.2)) ⟨J.ok h.pl U,h.lg,h.dk⟩
  exact ⟨B_ this.pl,this.lg,this.dk⟩
 | load I i f h1 h2 hl J hf U he hr hc =>
  have:=rP (i:=i) (ε:=(I,ε.2)) ⟨J.ok h.pl U,h.lg,h.dk⟩
  have h3:=B_ (i:=i) (f:=f) this.pl
  have hlen:i<(dH (outF (I,ε.2) i).2.1 i f).ak.length:=by
   obtain ⟨c,hc⟩:=oo (ε:=(I,ε.2)) hf
   have:=(List.getElem?_eq_some_iff.1 hc).1
   simpa [dH] using this
  refine ⟨h3.set (fun e he => ?_) (by simp only; rw [this.dk.at]; omega) (by simp),this.lg,this.dk⟩
  rcases Ul he with rfl | he
  ·simp only; omega
  ·exact h3.aE e he
theorem FG {π:Pl}{n:Int}(h:π.Ok): (unpinF π n).2.Ok:=by
 unfold unpinF
 split
 ·exact h
 ·rename_i i hi
  split
  ·exact h
  ·rename_i f I
   have hm:=bw I
   refine h.set h.aE (h.len f hm) ?_
   have:=h.pins f hm
   have J:f.pins≠0:=by
    unfold heldI at hi
    split at hi
    ·cases hi
    ·split at hi
     ·cases hi
     ·rename_i g U
      split at hi
      ·cases hi
      ·rename_i hp
       have:=bx hi
       subst this
       rw [U] at I
       have:=bx I
       subst this
       exact hp
   simp only; omega
inductive mP (ε:aO)(n:Int): Int→List Nat→aO→Prop where
 | dead (h:ε.2.2.dead=true):mP ε n 9 [] ε
 | jf (e:Int) (b:List Nat) (ε':aO) (h:ε.2.2.dead=false) (hr:gn ε n e b ε') (he:e≠0):mP ε n e [] ε'
 | tw (b:List Nat) (ε':aO) (h:ε.2.2.dead=false) (hr:gn ε n 0 b ε') (he:(unpinF ε'.1 n).1≠0):mP ε n (unpinF ε'.1 n).1 [] ((unpinF ε'.1 n).2,ε'.2)
 | read (b:List Nat) (ε':aO) (h:ε.2.2.dead=false) (hr:gn ε n 0 b ε') (he:(unpinF ε'.1 n).1=0):mP ε n 0 b ((unpinF ε'.1 n).2,ε'.2)
theorem mP.ok {ε ε':aO}{n e:Int}{b:List Nat}(I:mP ε n e b ε')(h:oB ε)(J:∀f∈ε.1.ak,f.pins=0): oB ε':=by
 cases I with
 | dead _=>exact h
 | jf e b ε' U I he=>exact I.ok h J
 | tw b ε' U I he=>have:=I.ok h J; exact ⟨FG this.pl,this.lg,this.dk⟩
 | read b ε' U I he=>have:=I.ok h J; exact ⟨FG this.pl,this.lg,this.dk⟩
def qJ (a p q r:Nat)(op dv:V)(aC:Nat): List V:=[.ptr p 0,.ptr q 0,.ptr r 0,op,dv,.int .u64 (aC:Int)]
def cC (a p q r:Nat)(op:V)(data:List Nat)(aC:Nat): ax:=xs fun dv:V=>star [pt a (.cells 6 (qJ a p q r op dv aC) false),.ct dv data]
def gV (g a:Nat)(now:List (Int×List Nat))(b9:Bool): ax:=xs fun nv:V=>star [pt g (.cells 3 [.ptr a 0,nv,.bool b9] false),jg (fun v b=>.ct v b) nv now]
section
variable {told:dM} {h:H} {S:List ax} {X:ax} {r k q p bW a g aC:Nat} {op v x wh di:V} {l b data:List Nat} {π:Pl} {m:List Fm} {μ:Lg} {δ:Dk} {now:List (Int×List Nat)} {b9:Bool}
theorem bL : Sat h (cC a p q r op data aC::S)↔∃dv,Sat h (pt a (.cells 6 (qJ a p q r op dv aC) false)::.ct dv data::S):=by
 simp only [cC,gu,en,fF,cW]
theorem fI : Sat h (gV g a now b9::S)↔∃nv,Sat h (pt g (.cells 3 [.ptr a 0,nv,.bool b9] false)::jg (fun v b=>.ct v b) nv now::S):=by
 simp only [gV,gu,en,fF,cW]
theorem Ca (U:W told){n:Int}(s:Sat h (cC a p q r op data aC::cj r p q π::bh q p μ::aG p δ::S))(I:oB (π,μ,δ))(J:∀f∈π.ak,f.pins=0)(hw:δ.waiting.length≤268435456):
  Call ⟨Tryz.prog,told⟩ 23 [.ptr a 0,.int .i64 n] h fun v h'=>∃(e:Int) (b:List Nat) (ε:aO),mP (π,μ,δ) n e b ε ∧
   ((e≠0∧v=.bE [.bz,.int .i64 e]∧Sat h' (cC a p q r op data aC::cj r p q ε.1::bh q p ε.2.1::aG p ε.2.2::S)) ∨
    (e=0∧∃u,v=.bE [u,.int .i64 0]∧Sat h' (bK u b::cC a p q r op data aC::cj r p q ε.1::bh q p ε.2.1::aG p ε.2.2::S))):=by
 have s0:=s
 obtain ⟨dv,s⟩:=bL.1 s
 refine Call.of_wp (U.free _ rfl) Tryz.func23 rfl rfl (zK 10 rfl (zf rfl (qA _ _) (zl rfl (s.ld (k:=0) rfl jL rfl) (zc rfl (xC U (s.ae [4])) ?_))))
 rintro v h ⟨rfl,rfl⟩
 refine zv ?_
 cases hd:δ.dead with
 | true =>
  exact zK 6 rfl (WP.ret ⟨aa,_,rfl,9,[],_,.dead hd,.inl ⟨by decide,rfl,s0⟩⟩)
 | false =>
  refine zK 6 rfl (zf rfl (oN _ _) (zl rfl (s.ld (k:=0) rfl vF rfl) (zm rfl (zc rfl (Ov (n:=n) U (s.ae [2,2,2]) I.pl J I.lg I.dk hw) ?_))))
  rintro v h ⟨e,b,ε,hr,(⟨he,rfl,s⟩ | ⟨rfl,u,rfl,s⟩)⟩
  ·dsimp only [bringA,getA,aU] at s
   refine zk 10 rfl (zt rfl (ah rfl rfl aV) (by simp; exact he) ?_)
   exact zk 8 rfl (WP.ret ⟨aa,_,rfl,e,[],ε,.jf e b ε hd hr he,.inl ⟨he,rfl,bL.2 ⟨dv,s.ae [3,3,0,0,0]⟩⟩⟩)
  ·dsimp only [bringA,getA,aU] at s
   refine zk 10 rfl (zh rfl (ah rfl rfl aV) (rfl) ?_)
   have s:=s.ae [4,4,0,0,0,0]
   refine zk 8 rfl (zf rfl (oN _ _) (zl rfl (s.ld (k:=0) rfl vF rfl) (zm rfl ?_)))
   have kV:=hr.ok I J
   refine zc rfl (HN (n:=n) U (s.ae [3]) kV.pl) ?_
   rintro v h ⟨rfl,s⟩
   refine zk 5 rfl ?_
   by_cases he:(unpinF ε.1 n).1=0
   ·skip
    refine zh rfl (ah rfl rfl aV) (by simp; exact he) ?_
    exact zk 9 rfl (WP.ret ⟨aa,_,rfl,0,b,_,.read b ε hd hr he,.inr ⟨rfl,u,rfl,(bL.2 ⟨dv,s.ae [1,1,0,1,1,0]⟩).ae [4,0,0,0,0]⟩⟩)
   ·skip
    refine zt rfl (ah rfl rfl aV) (by simp; exact he) ?_
    exact zk 8 rfl (WP.ret ⟨aa,_,rfl,_,[],_,.tw b ε hd hr he,.inl ⟨he,rfl,(bL.2 ⟨dv,(s.ae [1,1,0,1,1,0]).del 5⟩)⟩⟩)
end
structure Pl.Full (π:Pl): Prop where
 nodup:(π.aE.map (·.1)).Nodup
 jR:∀n i,lookL n π.aE=some i→0≤n∧∃f,π.ak[i.toNat]?=some f∧f.aM=n∧f.b.length=512
structure gW (ε:aO): Prop where
 ok:oB ε
 pins:∀f∈ε.1.ak,f.pins=0
 full:ε.1.Full
theorem Pl.Full.set {π:Pl}{i:Nat}{f g:Fm}{d:List (Int×(Nat×Bool))}(h:π.Full)(U:π.ak[i]?=some f)(hp:g.aM=f.aM)(hl:f.b.length=512→g.b.length=512): Pl.Full { π with ak:=π.ak.set i g,aN:=d }:=by
 refine ⟨h.nodup,fun n j hj => ?_⟩
 obtain ⟨h1,f',J,h3,h4⟩:=h.jR n j hj
 refine ⟨h1,?_⟩
 by_cases I:i=j.toNat
 ·subst I
  rw [U] at J
  have:=bx J
  subst this
  exact ⟨g,iT (List.getElem?_eq_some_iff.1 U).1,hp.trans h3,hl h4⟩
 ·exact ⟨f',by simp only [iU I]; exact J,h3,h4⟩
theorem gj.full {π I:Pl}(J:gj π I)(h:π.Full): I.Full:=by
 refine ⟨by rw [J.aE]; exact h.nodup,fun n j U => ?_⟩
 rw [J.aE] at U
 obtain ⟨h1,f',h2,h3,h4⟩:=h.jR n j U
 obtain ⟨t,ht⟩:=J.get _ _ h2
 exact ⟨h1,_,ht,h3,h4⟩
theorem sB {ε:aO}{i:Nat}(h:ε.1.Full): (outF ε i).2.1.Full:=by
 unfold outF
 split
 ·exact h
 ·rename_i f I
  split
  ·exact h
  ·split
   ·exact h
   ·split
    ·exact h
    ·split
     ·exact h
     ·exact h.set I rfl fun J=>J
theorem xK {π:Pl}{i:Nat}{f g:Fm}(h:π.Full)(hg:π.ak[i]?=some g)(hp:g.aM=f.aM): (dH π i f).Full∧∀n j,lookL n (dH π i f).aE=some j→j.toNat≠i:=by
 have key:∀n j,lookL n (dH π i f).aE=some j→lookL n π.aE=some j∧j.toNat≠i:=by
  intro n j I
  by_cases hf:f.aM<0
  ·have hw:(dH π i f).aE=π.aE:=by simp only [dH,aj hf]
   rw [hw] at I
   refine ⟨I,fun hi => ?_⟩
   obtain ⟨U,f',J,h3,_⟩:=h.jR n j I
   rw [hi,hg] at J
   have:=bx J
   subst this
   omega
  ·have hw:(dH π i f).aE=nh f.aM π.aE:=by simp only [dH,af hf]
   rw [hw,Fq h.nodup] at I
   by_cases hn:f.aM=n
   ·rw [aj hn] at I; cases I
   ·rw [af hn] at I
    refine ⟨I,fun hi => ?_⟩
    obtain ⟨U,f',J,h3,_⟩:=h.jR n j I
    rw [hi,hg] at J
    have:=bx J
    subst this
    omega
 refine ⟨⟨?_,fun n j I => ?_⟩,fun n j I=>(key n j I).2⟩
 ·unfold dH
  simp only
  split
  ·exact h.nodup
  ·exact xy h.nodup
 ·obtain ⟨U,J⟩:=key n j I
  obtain ⟨h3,f',h4,h5,h6⟩:=h.jR n j U
  exact ⟨h3,f',by simp only [dH,iU (jo J)]; exact h4,h5,h6⟩
theorem Jz {π:Pl}{i:Nat}{n:Int}{b:List Nat}(h:π.Full)(hi:i<π.ak.length)(J:∀n j,lookL n π.aE=some j→j.toNat≠i)(U:0≤n)(hb:b.length=512): (jQ π i n b).Full:=by
 refine ⟨iQ h.nodup,fun m j I => ?_⟩
 simp only [jQ,gY] at I
 by_cases hm:n=m
 ·rw [aj hm] at I
  have:=bx I
  subst this; subst hm
  exact ⟨U,⟨n,b,1,true,false⟩,iT hi,rfl,hb⟩
 ·rw [af hm] at I
  obtain ⟨h3,f',h4,h5,h6⟩:=h.jR m j I
  exact ⟨h3,f',by simp only [jQ,iU (jo (J m j I))]; exact h4,h5,h6⟩
theorem gn.full {ε ε':aO}{n e:Int}{b:List Nat}(hr:gn ε n e b ε')(hd:ε.2.2.Ok)(h:ε.1.Full): ε'.1.Full∧(e=0→b.length=512):=by
 cases hr with
 | arg _=>exact ⟨h,fun h=>(by cases h)⟩
 | BF i f h1 h2 hl U =>
  refine ⟨h.set U rfl fun hl=>hl,fun _ => ?_⟩
  obtain ⟨_,f',h4,_,h6⟩:=h.jR n i hl
  rw [cQ,U] at h4
  have:=bx h4
  subst this
  exact h6
 | out I i f h1 h2 hl hn U hh he=>exact ⟨sB (ε:=(I,ε.2)) (hn.full h),fun h=>absurd h he⟩
 | read I i f h1 h2 hl hn U hh he hr =>
  obtain ⟨c,J⟩:=oo (ε:=(I,ε.2)) U
  exact ⟨(xK (f:=f) (sB (ε:=(I,ε.2)) (hn.full h)) J rfl).1,fun h=>absurd h hr⟩
 | bad I i f h1 h2 hl hn U hh he hr hc =>
  obtain ⟨c,J⟩:=oo (ε:=(I,ε.2)) U
  exact ⟨(xK (f:=f) (sB (ε:=(I,ε.2)) (hn.full h)) J rfl).1,fun h=>absurd h hc⟩
 | load I i f h1 h2 hl hn U hh he hr hc =>
  obtain ⟨c,J⟩:=oo (ε:=(I,ε.2)) U
  have hi:=(List.getElem?_eq_some_iff.1 J).1
  obtain ⟨k1,k2⟩:=xK (f:=f) (sB (ε:=(I,ε.2)) (hn.full h)) J rfl
  have SX:=(B7 (ε:=(I,ε.2)) (i:=i) hd).at n
  exact ⟨Jz k1 (by simp only [dH,dD]; exact hi) k2 h1 SX,fun _=>SX⟩
theorem BI {π:Pl}{n:Int}(h:π.Full): (unpinF π n).2.Full:=by
 unfold unpinF
 split
 ·exact h
 ·split
  ·exact h
  ·rename_i f I
   exact h.set I rfl fun J=>J
theorem gj.pins {π I:Pl}(J:gj π I)(h:∀f∈π.ak,f.pins=0): ∀f∈I.ak,f.pins=0:=fun g U=>by
 obtain ⟨f,hf,t,rfl⟩:=J.ak g U
 exact h f hf
theorem sC {ε:aO}{i:Nat}(h:∀f∈ε.1.ak,f.pins=0): ∀f∈(outF ε i).2.1.ak,f.pins=0:=by
 unfold outF
 split
 ·exact h
 ·rename_i f J
  have hm:=bw J
  split
  ·exact h
  ·split
   ·exact h
   ·split
    ·exact h
    ·split
     ·exact h
     ·intro g I
      rcases pz I with I | rfl
      ·exact h g I
      ·exact h f hm
theorem xL {π:Pl}{i:Nat}{f:Fm}(h:∀f∈π.ak,f.pins=0): ∀f∈(dH π i f).ak,f.pins=0:=by
 intro g I
 rcases pz I with I | rfl
 ·exact h g I
 ·rfl
theorem gn.KG {ε ε':aO}{n e:Int}{b:List Nat}(U:gn ε n e b ε')(he:e≠0)(hp:∀f∈ε.1.ak,f.pins=0): ∀f∈ε'.1.ak,f.pins=0:=by
 cases U with
 | arg _=>exact hp
 | BF i f h1 h2 hl hf=>exact absurd rfl he
 | out I i f h1 h2 hl J hf hh he=>exact sC (ε:=(I,ε.2)) (J.pins hp)
 | read I i f h1 h2 hl J hf hh he U=>exact xL (f:=f) (sC (ε:=(I,ε.2)) (J.pins hp))
 | bad I i f h1 h2 hl J hf hh he U hc=>exact xL (f:=f) (sC (ε:=(I,ε.2)) (J.pins hp))
 | load I i f h1 h2 hl J hf hh he U hc=>exact absurd rfl he
theorem HX {m:List Fm}{i:Nat}{f g:Fm}(h:∀f∈m,f.pins=0)(J:g.pins=0): ∀x∈(m.set i f).set i g,x.pins=0:=by
 intro x I
 rw [AQ] at I
 rcases pz I with I | rfl
 ·exact h x I
 ·exact J
theorem uS {π:Pl}{n:Int}{i:Nat}{f:Fm}(hl:lookL n π.aE=some (i:Int))(I:π.ak[i]?=some f)(J:f.pins=1): heldI π n=some i∧unpinF π n=(0,{ π with ak:=π.ak.set i { f with pins:=0 } }):=by
 have U:heldI π n=some i:=by
  simp only [heldI,hl,cQ,I,J]
  rfl
 refine ⟨U,?_⟩
 simp only [unpinF,U,I,J]
 rfl
theorem HY {α:Type}{n:Int}{x:α}{l:List (Int×α)}: lookL n (cN n x l)=some x:=by rw [gY,aj rfl]
theorem gn.at {ε ε':aO}{n:Int}{b:List Nat}(hr:gn ε n 0 b ε')(hp:∀f∈ε.1.ak,f.pins=0):
  ∃(i:Nat) (f:Fm),lookL n ε'.1.aE=some (i:Int)∧ε'.1.ak[i]?=some f∧f.pins=1∧f.b=b∧∀g:Fm,g.pins=0→∀x∈ε'.1.ak.set i g,x.pins=0:=by
 generalize J:(0:Int)=e at hr
 cases hr with
 | arg _=>cases J
 | BF i f h1 h2 hl U =>
  have hi:=(List.getElem?_eq_some_iff.1 U).1
  refine ⟨i,{ f with fA:=true,pins:=f.pins+1 },hl,by simp [hi],by have:=hp f (bw U); show f.pins+1=1; omega,rfl,fun g hg=>HX hp hg⟩
 | out I i f h1 h2 hl hn U hh he=>exact absurd J.symm he
 | read I i f h1 h2 hl hn U hh he hr=>exact absurd J.symm hr
 | bad I i f h1 h2 hl hn U hh he hr hc=>exact absurd J.symm hc
 | load I i f h1 h2 hl hn U hh he hr hc =>
  obtain ⟨c,SE⟩:=oo (ε:=(I,ε.2)) U
  have hi:=(List.getElem?_eq_some_iff.1 SE).1
  refine ⟨i,⟨n,_,1,true,false⟩,HY,iT (by show i<(List.set _ i _).length; rw [dD]; exact hi),rfl,rfl,fun g hg=>HX (xL (f:=f) (sC (ε:=(I,ε.2)) (hn.pins hp))) hg⟩
theorem gn.Cb {ε ε':aO}{n:Int}{b:List Nat}(I:gn ε n 0 b ε')(J:∀f∈ε.1.ak,f.pins=0): (unpinF ε'.1 n).1=0∧∀f∈(unpinF ε'.1 n).2.ak,f.pins=0:=by
 obtain ⟨i,f,U,h2,h3,h4,h5⟩:=I.at J
 rw [(uS U h2 h3).2]
 exact ⟨rfl,h5 _ rfl⟩
theorem mP.lp {ε ε':aO}{n e:Int}{b:List Nat}(I:mP ε n e b ε')(h:gW ε): gW ε':=by
 refine ⟨I.ok h.ok h.pins,?_,?_⟩
 ·cases I with
  | dead _=>exact h.pins
  | jf e b ε' J I he=>exact I.KG he h.pins
  | tw b ε' J I he=>exact (I.Cb h.pins).2
  | read b ε' J I he=>exact (I.Cb h.pins).2
 ·cases I with
  | dead _=>exact h.full
  | jf e b ε' J I he=>exact (I.full h.ok.dk h.full).1
  | tw b ε' J I he=>exact BI (I.full h.ok.dk h.full).1
  | read b ε' J I he=>exact BI (I.full h.ok.dk h.full).1
theorem mP.len {ε ε':aO}{n:Int}{b:List Nat}(J:mP ε n 0 b ε')(h:gW ε): b.length=512:=by
 generalize I:(0:Int)=e at J
 cases J with
 | dead _=>cases I
 | jf e b ε' U J he=>exact absurd I.symm he
 | tw b ε' U J he=>exact absurd I.symm he
 | read b ε' U J he=>exact (J.full h.ok.dk h.full).2 rfl
inductive oQ (ε:aO)(now:List (Int×List Nat))(b9:Bool)(n:Int): Int→List Nat→aO→Prop where
 | arg (h:¬(0≤n∧n<ε.2.2.aq.length)):oQ ε now b9 n 1 [] ε
 | b9 (h1:0≤n) (h2:n<ε.2.2.aq.length) (h:b9=true):oQ ε now b9 n 18 [] ε
 | own (b:List Nat) (h1:0≤n) (h2:n<ε.2.2.aq.length) (h:b9=false) (hl:lookL n now=some b):oQ ε now b9 n 0 b ε
 | read (e:Int) (b:List Nat) (ε':aO) (h1:0≤n) (h2:n<ε.2.2.aq.length) (h:b9=false) (hl:lookL n now=none) (hr:mP ε n e b ε'):oQ ε now b9 n e b ε'
theorem oQ.lp {ε ε':aO}{now:List (Int×List Nat)}{b9:Bool}{n e:Int}{b:List Nat}(I:oQ ε now b9 n e b ε')(h:gW ε): gW ε':=by
 cases I with
 | arg _=>exact h
 | b9 _ _ _=>exact h
 | own _ _ _ _ _=>exact h
 | read e b ε' J U h3 hl I=>exact I.lp h
theorem OpR.invoke {C:dF}{E:List (Nat×V)}{h:H}{o:Oper}{cl:Go.Call}{x:Operand}{m:String}{t:TypeId}{u:V}{k:FuncId}{args:List V}{R:V→H→Prop}(J:o.op=.call cl)(hc:cl.callee=.invoke x m)
 (hx:lookO E x=some (.iface t u))(hm:methV C.P t m=some k)(ha:lookArgs E cl.args.toList=some args)(I:Am.Call C k (u::args) h R): OpR C E h o R:=by
 obtain ⟨v,h₁,⟨N,hN⟩,hr⟩:=I
 exact ⟨v,h₁,hr,fun env U=>⟨N,by simp only [evOp,J,evCall,oJ U ha,hc,bP U hx,hm]; exact hN⟩⟩
theorem KH : methV Tryz.prog 27 "Read" = some 18 := by kernel_rfl
theorem Um : methV Tryz.prog 24 "Read" = some 23 := by kernel_rfl
theorem Gp {h:H}{t e:TypeId}{x y:Operand}(hu:Tryz.prog.underlying t=some (.pointer e)): binV Tryz.prog h .neq t x y .cK .cK=some (.bool false):=by simp only [binV,eqV,hu]; rfl
theorem SY {h:H}{t e:TypeId}{x y:Operand}{i o:Nat}(hu:Tryz.prog.underlying t=some (.pointer e)): binV Tryz.prog h .neq t x y (.ptr i o) .cK=some (.bool true):=by simp only [binV,eqV,hu]; rfl
theorem Dn {h:H}{t e:TypeId}{x y:Operand}{i o:Nat}(hu:Tryz.prog.underlying t=some (.pointer e)): binV Tryz.prog h .eql t x y (.ptr i o) .cK=some (.bool false):=by simp only [binV,eqV,hu]; rfl
theorem YG {h:H}{t e k:TypeId}{x y:Operand}{i j n m:Nat}{cs ds:List V}(hu:Tryz.prog.underlying t=some (.pointer e))(I:bJ Tryz.prog e=some k)(J:1≤k)(hi:T.get h.tr i=some (.cells n cs false))(U:T.get h.tr j=some (.cells m ds false))(hn:1≤n)(hm:1≤m):
  binV Tryz.prog h .eql t x y (.ptr i 0) (.ptr j 0)=some (.bool (Nat.beq i j)):=by
 simp only [binV,eqV,hu,I,aQ.2 J,ag,hi,U,aQ.2 hn,aQ.2 hm,iD,dx,Bool.and_true,iW]
section
variable {told:dM} {h:H} {S:List ax} {X:ax} {r k q p bW a g aC:Nat} {op v x wh di:V} {l b data:List Nat} {π:Pl} {m:List Fm} {μ:Lg} {δ:Dk} {now:List (Int×List Nat)} {b9:Bool}
theorem OI (I:W told)(s:Sat h (cC a p q r .cK data aC::S)): Call ⟨Tryz.prog,told⟩ 13 [.ptr a 0] h fun v h'=>∃g,v=.bE [.ptr g 0,.int .i64 0]∧Sat h' (gV g a [] false::cC a p q r (.ptr g 0) data aC::S):=by
 obtain ⟨dv,s⟩:=bL.1 s
 refine Call.of_wp (I.free _ rfl) Tryz.func13 rfl rfl (zK 10 rfl (zf rfl (uD _ _) (zl rfl (s.ld (k:=0) rfl Hf rfl) (zh rfl (ah rfl rfl (Gp uQ)) (rfl) (zk 7 rfl ?_)))))
 refine aB.zB s rfl rfl rfl rfl (fun J h s => ?_)
 refine zo rfl (c8 rfl (by rw [aaD]; rfl)) ?_
 refine aB.cT s rfl rfl rfl (gL rfl rfl) (fun U h s => ?_)
 refine zn rfl (zf rfl (uD _ _) ?_)
 refine zS rfl (by exact s.ee (k:=2) rfl Wb rfl (by decide) rfl rfl) (fun h s => ?_)
 refine zk 5 rfl (zf rfl (uD _ _) (zl rfl (s.ld (k:=2) rfl Hf rfl) (zk 3 rfl (WP.ret ⟨aa,_,rfl,?_⟩))))
 have s1:=uH (f:=fun v (b:List Nat)=>.ct v b) (s.ae [1])
 have s:=fI.2 ⟨_,s1.ae [1]⟩
 exact ⟨_,rfl,(bL.2 ⟨dv,s.ae [1,1,0]⟩).ae [1]⟩
theorem HZ (hT:W told){n:Int}(s:Sat h (gV g a now b9::cC a p q r op data aC::cj r p q π::bh q p μ::aG p δ::S))(U:gW (π,μ,δ))(hw:δ.waiting.length≤268435456)(nM:∀e∈now,e.2.length=512):
  Call ⟨Tryz.prog,told⟩ 18 [.ptr g 0,.int .i64 n] h fun v h'=>∃(e:Int) (b:List Nat) (ε:aO),oQ (π,μ,δ) now b9 n e b ε ∧
   ((e≠0∧v=.bE [.bz,.int .i64 e]∧Sat h' (gV g a now b9::cC a p q r op data aC::cj r p q ε.1::bh q p ε.2.1::aG p ε.2.2::S)) ∨
    (e=0∧∃u,v=.bE [u,.int .i64 0]∧Sat h' (bK u b::gV g a now b9::cC a p q r op data aC::cj r p q ε.1::bh q p ε.2.1::aG p ε.2.2::S))):=by
 have s0:=s
 obtain ⟨nv,s⟩:=fI.1 s
 obtain ⟨dv,s⟩:=bL.1 (s.ae [2])
 dsimp only [bringA,getA,aU] at s
 refine Call.of_wp (hT.free _ rfl) Tryz.func18 rfl rfl (zK 6 rfl (WP.block (zK 3 rfl ?_)))
 refine zd rfl (ah rfl rfl bB) ?_ ?_
 ·intro J
  have J:n<0:=by simpa using J
  exact zk 20 rfl (WP.ret ⟨aa,_,rfl,1,[],_,.arg (by simp only; omega),.inl ⟨by decide,rfl,s0⟩⟩)
 ·intro J
  have J:0≤n:=by simp at J; omega
  refine zk 4 rfl (zf rfl (uE _ _) (zl rfl (s.ld (k:=2) rfl BY rfl) (zn rfl (zf rfl (qA _ _) (zl rfl (s.ld (k:=0) rfl jL rfl) (zc rfl (B6 hT (s.ae [6])) ?_))))))
  rintro v h ⟨rfl,rfl⟩
  refine zd rfl (ah rfl rfl nC) ?_ ?_
  ·intro I
   have I:(δ.aq.length:Int)≤n:=by simpa using I
   exact zk 9 rfl (WP.ret ⟨aa,_,rfl,1,[],_,.arg (by simp only; omega),.inl ⟨by decide,rfl,s0⟩⟩)
  ·intro I
   have I:n<(δ.aq.length:Int):=by simp at I; omega
   refine zk 8 rfl (zf rfl (Hj _ _) ?_)
   cases b9 with
   | true =>
    exact zt rfl (aW rfl (s.ld (k:=2) rfl ke rfl)) (rfl) (zk 8 rfl (WP.ret ⟨aa,_,rfl,18,[],_,.b9 J I rfl,.inl ⟨by decide,rfl,s0⟩⟩))
   | false =>
    refine zh rfl (aW rfl (by exact s.ld (k:=2) rfl ke rfl)) (rfl) ?_
    refine za rfl (zv (zj rfl (WP.skip (zw (zg rfl (zk 2 rfl (zf rfl (uF _ _) (zl rfl (by exact s.ld (k:=2) rfl mB rfl) ?_))))))))
    refine zm rfl ?_
    rcases mL (n:=n) (fun _ _=>aH.ct _ _) (s.ae [3]) lN bG zC with ⟨g1,g2,_⟩ | ⟨u,b,g1,g2,_,s2⟩
    ·refine aB.op rfl rfl rfl (gT rfl rfl g2) ?_
     refine zk 5 rfl (zv (zg rfl (zm rfl (zv (zj rfl (WP.skip (zg rfl (zk 2 rfl (zf rfl (uE _ _) (zl rfl (by exact s.ld (k:=2) rfl BY rfl) ?_))))))))))
     refine zm rfl (zc rfl (Ca (n:=n) hT (s0.ae [1,1,1,1]) U.ok U.pins hw) ?_)
     rintro v h ⟨e,b,ε,hr,(⟨he,rfl,s⟩ | ⟨rfl,u,rfl,s⟩)⟩
     ·dsimp only [bringA,getA,aU] at s
      exact zk 5 rfl (WP.ret ⟨aa,_,rfl,e,b,ε,.read e b ε J I rfl g1 hr,.inl ⟨he,rfl,s.ae [4]⟩⟩)
     ·dsimp only [bringA,getA,aU] at s
      exact zk 5 rfl (WP.ret ⟨aa,_,rfl,0,b,ε,.read 0 b ε J I rfl g1 hr,.inr ⟨rfl,u,rfl,s.ae [0,4]⟩⟩)
    ·dsimp only [bringA,getA,aU] at s2
     refine zo rfl (gT rfl rfl g2) (zk 14 rfl ?_)
     have hb:=nM _ (fC g1)
     refine zc rfl (kr hT s2 (cJ _ _) (by simp only at hb; omega)) ?_
     intro v h s
     refine zk 3 rfl (WP.ret ⟨aa,_,rfl,?_⟩)
     have s:=bL.2 ⟨dv,s.ae [3,3,0,0,0,0,0,0,0]⟩
     have s:=fI.2 ⟨nv,s.ae [4,3]⟩
     exact ⟨0,b,_,.own b J I rfl g1,.inr ⟨rfl,v,rfl,((s.ae [2,0,0,1,1,1]).del 6)⟩⟩
end
end Go.Proofs.YtconhghphklfjaaGreat.Am
