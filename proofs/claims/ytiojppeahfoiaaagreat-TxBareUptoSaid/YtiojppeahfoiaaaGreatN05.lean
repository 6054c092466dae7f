/- TxBare: a part of its proof; conditions: its statement's. -/
import Derived.Test.YtiojppeahfoiaaaGreatN04
import Derived.Test.YtiojppeahfoiaaaGreatN02
set_option linter.defProp false
namespace Go.Proofs.YtiojppeahfoiaaaGreat.Am
open Go
def qG:=@Tryz.underlying78
def uQ:=@Tryz.underlying26
def Au:=@Tryz.func59
def Jf:=@Tryz.func66
def Jg:=@Tryz.func79
variable {X Y:aI} {C:ep} {code:Code} {δ ya:Dk} {ε aj:bA} {A:bA→aI} {lv dd:bA→Prop} {es:cx} {f:Fm} {fn:Func} {cl:Go.Call} {h:H} {n e pg:Int} {μ:Lg} {d:List (Int×(Nat×Bool))} {now dM:List (Int×List Nat)} {cs:List (List Nat)} {E:List (Nat×V)} {S:List aI} {ks:List Int} {b l data R er c fI c' M:List Nat} {args:List V} {i r k q cZ a g aH o j id aF z tx pv nx N K B link extra off lo lk su L:Nat} {y:Operand} {π cn:Pl} {P:Program} {α:Type} {t:TypeId} {x wh di u kv dt rv:V}
theorem gv.ai (I:gv π cn): ∀g∈cn.ai,∃f∈π.ai,∃t,g={ f with fX:=t }:=by
 intro g hg
 obtain⟨i,hi,rfl⟩:=List.mem_iff_getElem.1 hg
 have hf:π.ai[i]?=some (π.ai[i]'(by rw[←I.len];exact hi)):=bw _
 obtain⟨t,J⟩:=I.get i _ hf
 rw[bw hi] at J
 exact⟨_,wq _,t,cg J⟩
theorem gv.ok (I:gv π cn)(h:π.Ok)(hh:cn.hand<cn.ai.length): cn.Ok:=by
 refine⟨hh,by rw[I.len];exact h.many,by rw[I.bQ,I.len];exact h.bQ,fun g J => ?_,fun g J => ?_⟩
 ·obtain⟨f,hf,t,rfl⟩:=I.ai g J
  exact h.len f hf
 ·obtain⟨f,hf,t,rfl⟩:=I.ai g J
  exact h.pins f hf
theorem Pl.Ok.set {w:List (Int×Int)}(h:π.Ok)(hw:∀e∈w,0≤e.2∧e.2<π.ai.length)(J:f.b.length≤512)(hp:0≤f.pins∧f.pins≤4294967296): Pl.Ok { π with ai:=π.ai.set i f,bQ:=w,bO:=d }:=by
 refine⟨by simp only[dg];exact h.hand,by simp only[dg];exact h.many,fun e he=>by simp only[dg];exact hw e he,fun g I => ?_,fun g I => ?_⟩
 ·rcases pK I with I|rfl
  ·exact h.len g I
  ·exact J
 ·rcases pK I with I|rfl
  ·exact h.pins g I
  ·exact hp
theorem XD : ∀ {l:List (Int×α)} {e:Int×α},e∈lG n l→e∈l:=by
 intro l
 induction l with
 |nil=>intro e h;exact h
 |cons x l I =>
  intro e h
  simp only[lG] at h
  split at h
  ·exact bW _ h
  ·rcases List.mem_cons.1 h with rfl|h
   ·exact bX
   ·exact bW _ (I h)
theorem XE {x:α}: ∀ {l:List (Int×α)} {e:Int×α},e∈b8 n x l→e=(n,x)∨e∈l:=by
 intro l
 induction l with
 |nil=>intro e h;simp only[b8,List.mem_singleton] at h;exact .inl h
 |cons y l I =>
  intro e h
  simp only[b8] at h
  split at h
  ·rcases List.mem_cons.1 h with rfl|h
   ·exact .inl rfl
   ·exact .inr (bW _ h)
  ·rcases List.mem_cons.1 h with rfl|h
   ·exact .inr bX
   ·rcases I h with h|h
    ·exact .inl h
    ·exact .inr (bW _ h)
theorem CT (h:π.Ok): (dP π i f).Ok:=by
 unfold dP
 refine h.set (fun e he => ?_) (by simp[fh]) (by simp[fh])
 split at he
 ·exact h.bQ e he
 ·exact h.bQ e (XD he)
theorem gx.ok (hr:gx ε n e b aj)(h:As ε)(hp:∀f∈ε.1.ai,f.pins=0): As aj:=by
 cases hr with
 |arg _=>exact h
 |D3 i f h1 h2 hl hf =>
  have hm:=bK hf
  exact⟨h.pl.set h.pl.bQ (h.pl.len f hm) (by have:=hp f hm;simp only;omega),h.lg,h.dk⟩
 |out cn i f h1 h2 hl I hf J he=>exact x_ (ε:=(cn,ε.2)) ⟨I.ok h.pl J,h.lg,h.dk⟩
 |read cn i f h1 h2 hl I hf J he hr =>
  have:=x_ (i:=i) (ε:=(cn,ε.2)) ⟨I.ok h.pl J,h.lg,h.dk⟩
  exact⟨CT this.pl,this.lg,this.dk⟩
 |bad cn i f h1 h2 hl I hf J he hr hc =>
  have:=x_ (i:=i) (ε:=(cn,ε.2)) ⟨I.ok h.pl J,h.lg,h.dk⟩
  exact⟨CT this.pl,this.lg,this.dk⟩
 |load cn i f h1 h2 hl I hf J he hr hc =>
  have:=x_ (i:=i) (ε:=(cn,ε.2)) ⟨I.ok h.pl J,h.lg,h.dk⟩
  have h3:=CT (i:=i) (f:=f) this.pl
  have hlen:i<(dP (outF (cn,ε.2) i).2.1 i f).ai.length:=by
   obtain⟨c,hc⟩:=om (ε:=(cn,ε.2)) hf
   have:=(List.getElem?_eq_some_iff.1 hc).1
   simpa[dP] using this
  refine⟨h3.set (fun e he => ?_) (by simp only;rw[this.dk.at];omega) (by simp),this.lg,this.dk⟩
  rcases XE he with rfl|he
  ·simp only;omega
  ·exact h3.bQ e he
theorem GP (h:π.Ok): (unpinF π n).2.Ok:=by
 unfold unpinF
 split
 ·exact h
 ·rename_i i hi
  split
  ·exact h
  ·rename_i f I
   have hm:=bK I
   refine h.set h.bQ (h.len f hm) ?_
   have:=h.pins f hm
   have J:f.pins≠0:=by
    unfold heldI at hi
    split at hi
    ·cases hi
    ·split at hi
     ·cases hi
     ·rename_i g hg
      split at hi
      ·cases hi
      ·rename_i hp
       have:=cg hi
       subst this
       rw[hg] at I
       have:=cg I
       subst this
       exact hp
   simp only;omega
inductive nr (ε:bA)(n:Int): Int→List Nat→bA→Prop where
 |dead (h:ε.2.2.dead=true):nr ε n 9 [] ε
 |jF (e:Int) (b:List Nat) (aj:bA) (h:ε.2.2.dead=false) (hr:gx ε n e b aj) (he:e≠0):nr ε n e [] aj
 |yb (b:List Nat) (aj:bA) (h:ε.2.2.dead=false) (hr:gx ε n 0 b aj) (he:(unpinF aj.1 n).1≠0):nr ε n (unpinF aj.1 n).1 [] ((unpinF aj.1 n).2,aj.2)
 |read (b:List Nat) (aj:bA) (h:ε.2.2.dead=false) (hr:gx ε n 0 b aj) (he:(unpinF aj.1 n).1=0):nr ε n 0 b ((unpinF aj.1 n).2,aj.2)
theorem nr.ok (I:nr ε n e b aj)(h:As ε)(J:∀f∈ε.1.ai,f.pins=0): As aj:=by
 cases I with
 |dead _=>exact h
 |jF e b aj hd I he=>exact I.ok h J
 |yb b aj hd I he=>have:=I.ok h J;exact⟨GP this.pl,this.lg,this.dk⟩
 |read b aj hd I he=>have:=I.ok h J;exact⟨GP this.pl,this.lg,this.dk⟩
def sE (a p q r:Nat)(op dv:V)(aH:Nat): List V:=[.ptr p 0,.ptr q 0,.ptr r 0,op,dv,.int .u64 (aH:Int)]
def dA (a p q r:Nat)(op:V)(data:List Nat)(aH:Nat): aI:=xs fun dv:V=>star [pt a (.cells 6 (sE a p q r op dv aH) false),.cD dv data]
def eW (g a:Nat)(now:List (Int×List Nat))(cA:Bool): aI:=xs fun I:V=>star [pt g (.cells 3 [.ptr a 0,I,.bool cA] false),ng (fun v b=>.cD v b) I now]
section
variable {told:cJ} {p:Nat} {op v:V} {m:List Fm} {cA:Bool}
theorem cm : Sat h (dA a p q r op data aH::S)↔∃dv,Sat h (pt a (.cells 6 (sE a p q r op dv aH) false)::.cD dv data::S):=by
 simp only[dA,gK,aM,iS,dU]
theorem eX : Sat h (eW g a now cA::S)↔∃I,Sat h (pt g (.cells 3 [.ptr a 0,I,.bool cA] false)::ng (fun v b=>.cD v b) I now::S):=by
 simp only[eW,gK,aM,iS,dU]
theorem yc (hT:W told)(s:Sat h (dA a p q r op data aH::eo r p q π::bS q p μ::aO p δ::S))(I:As (π,μ,δ))(J:∀f∈π.ai,f.pins=0)(hw:δ.waiting.length≤268435456):
  Call ⟨Tryz.prog,told⟩ 44 [.ptr a 0,.int .i64 n] h fun v h'=>∃(e:Int) (b:List Nat) (ε:bA),nr (π,μ,δ) n e b ε ∧
   ((e≠0∧v=.aQ [.aY,.int .i64 e]∧Sat h' (dA a p q r op data aH::eo r p q ε.1::bS q p ε.2.1::aO p ε.2.2::S)) ∨
    (e=0∧∃u,v=.aQ [u,.int .i64 0]∧Sat h' (aZ u b::dA a p q r op data aH::eo r p q ε.1::bS q p ε.2.1::aO p ε.2.2::S))):=by
 have s0:=s
 obtain⟨dv,s⟩:=cm.1 s
 refine Call.of_wp (hT.free _ rfl) Tryz.func44 rfl rfl (zK 10 rfl (zY s 0 pU qv rfl (zc rfl (IW hT (s.ae [4])) ?_)))
 rintro v h ⟨rfl,rfl⟩
 refine zv ?_
 cases hd:δ.dead with
 |true =>
  exact zK 6 rfl (WP.ret ⟨aa,_,rfl,9,[],_,.dead hd,.inl ⟨by decide,rfl,s0⟩⟩)
 |false =>
  refine zK 6 rfl (zY s 0 tZ Bx rfl (zm rfl (zc rfl (Qu (n:=n) hT (s.ae [2,2,2]) I.pl J I.lg I.dk hw) ?_)))
  rintro v h ⟨e,b,ε,hr,(⟨he,rfl,s⟩|⟨rfl,u,rfl,s⟩)⟩
  ·dsimp only[bringA,getA,aE] at s
   refine zk 10 rfl (zB rfl aD (by simp;exact he) ?_)
   exact zk 8 rfl (WP.ret ⟨aa,_,rfl,e,[],ε,.jF e b ε hd hr he,.inl ⟨he,rfl,cm.2 ⟨dv,s.ae [3,3,0,0,0]⟩⟩⟩)
  ·dsimp only[bringA,getA,aE] at s
   refine zk 10 rfl (zC rfl aD (rfl) ?_)
   have s:=s.ae [4,4,0,0,0,0]
   refine zk 8 rfl (zY s 0 tZ Bx rfl (zm rfl ?_))
   have iO:=hr.ok I J
   refine zc rfl (I9 (n:=n) hT (s.ae [3]) iO.pl) ?_
   rintro v h ⟨rfl,s⟩
   refine zk 5 rfl ?_
   by_cases he:(unpinF ε.1 n).1=0
   ·skip
    refine zC rfl aD (by simp;exact he) ?_
    exact zk 9 rfl (WP.ret ⟨aa,_,rfl,0,b,_,.read b ε hd hr he,.inr ⟨rfl,u,rfl,(cm.2 ⟨dv,s.ae [1,1,0,1,1,0]⟩).ae [4,0,0,0,0]⟩⟩)
   ·skip
    refine zB rfl aD (by simp;exact he) ?_
    exact zk 8 rfl (WP.ret ⟨aa,_,rfl,_,[],_,.yb b ε hd hr he,.inl ⟨he,rfl,(cm.2 ⟨dv,(s.ae [1,1,0,1,1,0]).del 5⟩)⟩⟩)
end
structure Pl.Full (π:Pl): Prop where
 nodup:(π.bQ.map (·.1)).Nodup
 mA:∀n i,lookL n π.bQ=some i→0≤n∧∃f,π.ai[i.toNat]?=some f∧f.aK=n∧f.b.length=512
structure iL (ε:bA): Prop where
 ok:As ε
 pins:∀f∈ε.1.ai,f.pins=0
 full:ε.1.Full
theorem Pl.Full.set {g:Fm}(h:π.Full)(hf:π.ai[i]?=some f)(hp:g.aK=f.aK)(hl:f.b.length=512→g.b.length=512): Pl.Full { π with ai:=π.ai.set i g,bO:=d }:=by
 refine⟨h.nodup,fun n j hj => ?_⟩
 obtain⟨h1,f',J,h3,h4⟩:=h.mA n j hj
 refine⟨h1,?_⟩
 by_cases I:i=j.toNat
 ·subst I
  rw[hf] at J
  have:=cg J
  subst this
  exact⟨g,j4 (List.getElem?_eq_some_iff.1 hf).1,hp.trans h3,hl h4⟩
 ·exact⟨f',by simp only[qX I];exact J,h3,h4⟩
theorem gv.full (I:gv π cn)(h:π.Full): cn.Full:=by
 refine⟨by rw[I.bQ];exact h.nodup,fun n j J => ?_⟩
 rw[I.bQ] at J
 obtain⟨h1,f',h2,h3,h4⟩:=h.mA n j J
 obtain⟨t,ht⟩:=I.get _ _ h2
 exact⟨h1,_,ht,h3,h4⟩
theorem vx (h:ε.1.Full): (outF ε i).2.1.Full:=by
 unfold outF
 split
 ·exact h
 ·rename_i f I
  split
  ·exact h
  ·split
   ·exact h
   ·split
    ·exact h
    ·split
     ·exact h
     ·exact h.set I rfl fun J=>J
theorem yf {g:Fm}(h:π.Full)(hg:π.ai[i]?=some g)(hp:g.aK=f.aK): (dP π i f).Full∧∀n j,lookL n (dP π i f).bQ=some j→j.toNat≠i:=by
 have key:∀n j,lookL n (dP π i f).bQ=some j→lookL n π.bQ=some j∧j.toNat≠i:=by
  intro n j I
  by_cases hf:f.aK<0
  ·have hw:(dP π i f).bQ=π.bQ:=by simp only[dP,aC hf]
   rw[hw] at I
   refine⟨I,fun hi => ?_⟩
   obtain⟨h1,f',J,h3,_⟩:=h.mA n j I
   rw[hi,hg] at J
   have:=cg J
   subst this
   omega
  ·have hw:(dP π i f).bQ=lG f.aK π.bQ:=by simp only[dP,ak hf]
   rw[hw,GC h.nodup] at I
   by_cases hn:f.aK=n
   ·rw[aC hn] at I;cases I
   ·rw[ak hn] at I
    refine⟨I,fun hi => ?_⟩
    obtain⟨h1,f',J,h3,_⟩:=h.mA n j I
    rw[hi,hg] at J
    have:=cg J
    subst this
    omega
 refine⟨⟨?_,fun n j I => ?_⟩,fun n j I=>(key n j I).2⟩
 ·unfold dP
  simp only
  split
  ·exact h.nodup
  ·exact xT h.nodup
 ·obtain⟨h1,J⟩:=key n j I
  obtain⟨h3,f',h4,h5,h6⟩:=h.mA n j h1
  exact⟨h3,f',by simp only[dP,qX (l9 J)];exact h4,h5,h6⟩
theorem K_ (h:π.Full)(hi:i<π.ai.length)(J:∀n j,lookL n π.bQ=some j→j.toNat≠i)(hn:0≤n)(hb:b.length=512): (jy π i n b).Full:=by
 refine⟨iN h.nodup,fun m j I => ?_⟩
 simp only[jy,fH] at I
 by_cases hm:n=m
 ·rw[aC hm] at I
  have:=cg I
  subst this;subst hm
  exact⟨hn,⟨n,b,1,true,false⟩,j4 hi,rfl,hb⟩
 ·rw[ak hm] at I
  obtain⟨h3,f',h4,h5,h6⟩:=h.mA m j I
  exact⟨h3,f',by simp only[jy,qX (l9 (J m j I))];exact h4,h5,h6⟩
theorem gx.full (hr:gx ε n e b aj)(hd:ε.2.2.Ok)(h:ε.1.Full): aj.1.Full∧(e=0→b.length=512):=by
 cases hr with
 |arg _=>exact⟨h,fun h=>(by cases h)⟩
 |D3 i f h1 h2 hl J =>
  refine⟨h.set J rfl fun hl=>hl,fun _ => ?_⟩
  obtain⟨_,f',h4,_,h6⟩:=h.mA n i hl
  rw[cL,J] at h4
  have:=cg h4
  subst this
  exact h6
 |out cn i f h1 h2 hl hn J hh he=>exact⟨vx (ε:=(cn,ε.2)) (hn.full h),fun h=>absurd h he⟩
 |read cn i f h1 h2 hl hn J hh he hr =>
  obtain⟨c,I⟩:=om (ε:=(cn,ε.2)) J
  exact⟨(yf (f:=f) (vx (ε:=(cn,ε.2)) (hn.full h)) I rfl).1,fun h=>absurd h hr⟩
 |bad cn i f h1 h2 hl hn J hh he hr hc =>
  obtain⟨c,I⟩:=om (ε:=(cn,ε.2)) J
  exact⟨(yf (f:=f) (vx (ε:=(cn,ε.2)) (hn.full h)) I rfl).1,fun h=>absurd h hc⟩
 |load cn i f h1 h2 hl hn J hh he hr hc =>
  obtain⟨c,I⟩:=om (ε:=(cn,ε.2)) J
  have hi:=(List.getElem?_eq_some_iff.1 I).1
  obtain⟨k1,k2⟩:=yf (f:=f) (vx (ε:=(cn,ε.2)) (hn.full h)) I rfl
  have Av:=(CR (ε:=(cn,ε.2)) (i:=i) hd).at n
  exact⟨K_ k1 (by simp only[dP,dg];exact hi) k2 h1 Av,fun _=>Av⟩
theorem Cm (h:π.Full): (unpinF π n).2.Full:=by
 unfold unpinF
 split
 ·exact h
 ·split
  ·exact h
  ·rename_i f I
   exact h.set I rfl fun J=>J
theorem gv.pins (I:gv π cn)(h:∀f∈π.ai,f.pins=0): ∀f∈cn.ai,f.pins=0:=fun g J=>by
 obtain⟨f,hf,t,rfl⟩:=I.ai g J
 exact h f hf
theorem vy {ε:bA}{i:Nat}(h:∀f∈ε.1.ai,f.pins=0): ∀f∈(outF ε i).2.1.ai,f.pins=0:=by
 unfold outF
 split
 ·exact h
 ·rename_i f J
  have hm:=bK J
  split
  ·exact h
  ·split
   ·exact h
   ·split
    ·exact h
    ·split
     ·exact h
     ·intro g I
      rcases pK I with I|rfl
      ·exact h g I
      ·exact h f hm
theorem yg {π:Pl}{i:Nat}{f:Fm}(h:∀f∈π.ai,f.pins=0): ∀f∈(dP π i f).ai,f.pins=0:=by
 intro g I
 rcases pK I with I|rfl
 ·exact h g I
 ·rfl
theorem gx.Mu {ε aj:bA}{n e:Int}{b:List Nat}(J:gx ε n e b aj)(he:e≠0)(hp:∀f∈ε.1.ai,f.pins=0): ∀f∈aj.1.ai,f.pins=0:=by
 cases J with
 |arg _=>exact hp
 |D3 i f h1 h2 hl hf=>exact absurd rfl he
 |out cn i f h1 h2 hl I hf hh he=>exact vy (ε:=(cn,ε.2)) (I.pins hp)
 |read cn i f h1 h2 hl I hf hh he J=>exact yg (f:=f) (vy (ε:=(cn,ε.2)) (I.pins hp))
 |bad cn i f h1 h2 hl I hf hh he J hc=>exact yg (f:=f) (vy (ε:=(cn,ε.2)) (I.pins hp))
 |load cn i f h1 h2 hl I hf hh he J hc=>exact absurd rfl he
theorem Jh {m:List Fm}{i:Nat}{f g:Fm}(h:∀f∈m,f.pins=0)(J:g.pins=0): ∀x∈(m.set i f).set i g,x.pins=0:=by
 intro x I
 rw[List.set_set] at I
 rcases pK I with I|rfl
 ·exact h x I
 ·exact J
theorem uR (hl:lookL n π.bQ=some (i:Int))(I:π.ai[i]?=some f)(J:f.pins=1): heldI π n=some i∧unpinF π n=(0,{ π with ai:=π.ai.set i { f with pins:=0 } }):=by
 have h1:heldI π n=some i:=by
  simp only[heldI,hl,cL,I,J]
  rfl
 refine⟨h1,?_⟩
 simp only[unpinF,h1,I,J]
 rfl
theorem TI {α:Type}{n:Int}{x:α}{l:List (Int×α)}: lookL n (b8 n x l)=some x:=by rw[fH,aC rfl]
theorem gx.at {ε aj:bA}{n:Int}{b:List Nat}(hr:gx ε n 0 b aj)(hp:∀f∈ε.1.ai,f.pins=0):
  ∃(i:Nat) (f:Fm),lookL n aj.1.bQ=some (i:Int)∧aj.1.ai[i]?=some f∧f.pins=1∧f.b=b∧∀g:Fm,g.pins=0→∀x∈aj.1.ai.set i g,x.pins=0:=by
 generalize I:(0:Int)=e at hr
 cases hr with
 |arg _=>cases I
 |D3 i f h1 h2 hl J =>
  have hi:=(List.getElem?_eq_some_iff.1 J).1
  refine⟨i,{ f with fX:=true,pins:=f.pins+1 },hl,by simp[hi],by have:=hp f (bK J);show f.pins+1=1;omega,rfl,fun g hg=>Jh hp hg⟩
 |out cn i f h1 h2 hl hn J hh he=>exact absurd I.symm he
 |read cn i f h1 h2 hl hn J hh he hr=>exact absurd I.symm hr
 |bad cn i f h1 h2 hl hn J hh he hr hc=>exact absurd I.symm hc
 |load cn i f h1 h2 hl hn J hh he hr hc =>
  obtain⟨c,hc'⟩:=om (ε:=(cn,ε.2)) J
  have hi:=(List.getElem?_eq_some_iff.1 hc').1
  refine⟨i,⟨n,_,1,true,false⟩,TI,j4 (by show i<(List.set _ i _).length;rw[dg];exact hi),rfl,rfl,fun g hg=>Jh (yg (f:=f) (vy (ε:=(cn,ε.2)) (hn.pins hp))) hg⟩
theorem gx.CU (I:gx ε n 0 b aj)(J:∀f∈ε.1.ai,f.pins=0): (unpinF aj.1 n).1=0∧∀f∈(unpinF aj.1 n).2.ai,f.pins=0:=by
 obtain⟨i,f,h1,h2,h3,h4,h5⟩:=I.at J
 rw[(uR h1 h2 h3).2]
 exact⟨rfl,h5 _ rfl⟩
theorem nr.lS (I:nr ε n e b aj)(h:iL ε): iL aj:=by
 refine⟨I.ok h.ok h.pins,?_,?_⟩
 ·cases I with
  |dead _=>exact h.pins
  |jF e b aj hd I he=>exact I.Mu he h.pins
  |yb b aj hd I he=>exact(I.CU h.pins).2
  |read b aj hd I he=>exact(I.CU h.pins).2
 ·cases I with
  |dead _=>exact h.full
  |jF e b aj hd I he=>exact(I.full h.ok.dk h.full).1
  |yb b aj hd I he=>exact Cm (I.full h.ok.dk h.full).1
  |read b aj hd I he=>exact Cm (I.full h.ok.dk h.full).1
theorem nr.len (J:nr ε n 0 b aj)(h:iL ε): b.length=512:=by
 generalize I:(0:Int)=e at J
 cases J with
 |dead _=>cases I
 |jF e b aj hd J he=>exact absurd I.symm he
 |yb b aj hd J he=>exact absurd I.symm he
 |read b aj hd J he=>exact(J.full h.ok.dk h.full).2 rfl
inductive GRd (ε:bA)(now:List (Int×List Nat))(cA:Bool)(n:Int): Int→List Nat→bA→Prop where
 |arg (h:¬(0≤n∧n<ε.2.2.aq.length)):GRd ε now cA n 1 [] ε
 |cA (h1:0≤n) (h2:n<ε.2.2.aq.length) (h:cA=true):GRd ε now cA n 18 [] ε
 |own (b:List Nat) (h1:0≤n) (h2:n<ε.2.2.aq.length) (h:cA=false) (hl:lookL n now=some b):GRd ε now cA n 0 b ε
 |read (e:Int) (b:List Nat) (aj:bA) (h1:0≤n) (h2:n<ε.2.2.aq.length) (h:cA=false) (hl:lookL n now=none) (hr:nr ε n e b aj):GRd ε now cA n e b aj
theorem GRd.lS {cA:Bool}(I:GRd ε now cA n e b aj)(h:iL ε): iL aj:=by
 cases I with
 |arg _=>exact h
 |cA _ _ _=>exact h
 |own _ _ _ _ _=>exact h
 |read e b aj J h2 h3 hl I=>exact I.lS h
theorem OpR.invoke {o:Oper}{x:Operand}{m:String}{k:FuncId}{R:V→H→Prop}(J:o.op=.call cl)(hc:cl.callee=.invoke x m)
 (hx:bj E x=some (.iface t u))(hm:methV C.P t m=some k)(ha:lookArgs E cl.args.toList=some args)(I:Am.Call C k (u::args) h R): OpR C E h o R:=by
 obtain⟨v,h₁,⟨N,hN⟩,hr⟩:=I
 exact⟨v,h₁,hr,fun env hE=>⟨N,by simp only[evOp,J,evCall,lE hE ha,hc,bM hE hx,hm];exact hN⟩⟩
theorem FP : methV Tryz.prog 78 "Read" = some 207 := by kernel_rfl
theorem XF : methV Tryz.prog 26 "Read" = some 44 := by kernel_rfl
theorem V5 {e:TypeId}{x:Operand}(hu:Tryz.prog.underlying t=some (.pointer e)): binV Tryz.prog h .neq t x y .bq .bq=some (.bool false):=by simp only[binV,eqV,hu];rfl
theorem abD {e:TypeId}{x:Operand}(hu:Tryz.prog.underlying t=some (.pointer e)): binV Tryz.prog h .neq t x y (.ptr i o) .bq=some (.bool true):=by simp only[binV,eqV,hu];rfl
theorem V6 {e:TypeId}{x:Operand}(hu:Tryz.prog.underlying t=some (.pointer e)): binV Tryz.prog h .eql t x y .bq .bq=some (.bool true):=by simp only[binV,eqV,hu];rfl
theorem qH {e:TypeId}{x:Operand}(hu:Tryz.prog.underlying t=some (.pointer e)): binV Tryz.prog h .eql t x y (.ptr i o) .bq=some (.bool false):=by simp only[binV,eqV,hu];rfl
theorem abE {e:TypeId}{x:Operand}(hu:Tryz.prog.underlying t=some (.pointer e)): binV Tryz.prog h .eql t x y .bq (.ptr i o)=some (.bool false):=by simp only[binV,eqV,hu];rfl
theorem abF {e k:TypeId}{x:Operand}{n m:Nat}{cs ds:List V}(hu:Tryz.prog.underlying t=some (.pointer e))(I:bB Tryz.prog e=some k)(J:1≤k)(hi:T.get h.tr i=some (.cells n cs false))(hj:T.get h.tr j=some (.cells m ds false))(hn:1≤n)(hm:1≤m):
  binV Tryz.prog h .eql t x y (.ptr i 0) (.ptr j 0)=some (.bool (Nat.beq i j)):=by
 simp only[binV,eqV,hu,I,aL.2 J,ah,hi,hj,aL.2 hn,aL.2 hm,iT,fJ,wz,lY]
section
variable {told:cJ} {p:Nat} {op v:V} {m:List Fm} {cA:Bool}
theorem sF (I:W told)(s:Sat h (dA a p q r .bq data aH::S)): Call ⟨Tryz.prog,told⟩ 38 [.ptr a 0] h fun v h'=>∃g,v=.aQ [.ptr g 0,.int .i64 0]∧Sat h' (eW g a [] false::dA a p q r (.ptr g 0) data aH::S):=by
 obtain⟨dv,s⟩:=cm.1 s
 refine Call.of_wp (I.free _ rfl) Tryz.func38 rfl rfl (zK 10 rfl (zY s 0 t_ NM rfl (zC rfl (V5 qG) (rfl) (zk 7 rfl ?_))))
 refine au.sQ s rfl rfl rfl rfl (fun J h s => ?_)
 refine zo rfl (cj rfl (by rw[abe];rfl)) ?_
 refine au.bD s rfl rfl rfl (dB rfl rfl) (fun p13 h s => ?_)
 refine zn rfl (zf rfl (t_ _ _) ?_)
 refine zS rfl (by exact s.dK (k:=2) rfl ZB rfl (by decide) rfl rfl) (fun h s => ?_)
 refine zk 5 rfl (zY s 2 t_ NM rfl (zk 3 rfl (WP.ret ⟨aa,_,rfl,?_⟩)))
 have s1:=pq (f:=fun v (b:List Nat)=>.cD v b) (s.ae [1])
 have s:=eX.2 ⟨_,s1.ae [1]⟩
 exact⟨_,rfl,(cm.2 ⟨dv,s.ae [1,1,0]⟩).ae [1]⟩
theorem Ji (hT:W told)(s:Sat h (eW g a now cA::dA a p q r op data aH::eo r p q π::bS q p μ::aO p δ::S))(mS:iL (π,μ,δ))(hw:δ.waiting.length≤268435456)(sR:∀e∈now,e.2.length=512):
  Call ⟨Tryz.prog,told⟩ 207 [.ptr g 0,.int .i64 n] h fun v h'=>∃(e:Int) (b:List Nat) (ε:bA),GRd (π,μ,δ) now cA n e b ε ∧
   ((e≠0∧v=.aQ [.aY,.int .i64 e]∧Sat h' (eW g a now cA::dA a p q r op data aH::eo r p q ε.1::bS q p ε.2.1::aO p ε.2.2::S)) ∨
    (e=0∧∃u,v=.aQ [u,.int .i64 0]∧Sat h' (aZ u b::eW g a now cA::dA a p q r op data aH::eo r p q ε.1::bS q p ε.2.1::aO p ε.2.2::S))):=by
 have s0:=s
 obtain⟨nv,s⟩:=eX.1 s
 obtain⟨dv,s⟩:=cm.1 (s.ae [2])
 dsimp only[bringA,getA,aE] at s
 refine Call.of_wp (hT.free _ rfl) Tryz.func207 rfl rfl (zK 6 rfl (WP.block (zK 3 rfl ?_)))
 refine zd rfl (ay rfl rfl aT) ?_ ?_
 ·intro J
  have J:n<0:=by simpa using J
  exact zk 20 rfl (WP.ret ⟨aa,_,rfl,1,[],_,.arg (by simp only;omega),.inl ⟨by decide,rfl,s0⟩⟩)
 ·intro J
  have J:0≤n:=by simp at J;omega
  refine zk 4 rfl (zY s 2 pW o9 rfl (zn rfl (zY s 0 pU qv rfl (zc rfl (xW hT (s.ae [6])) ?_))))
  rintro v h ⟨rfl,rfl⟩
  refine zd rfl (ay rfl rfl jg) ?_ ?_
  ·intro I
   have I:(δ.aq.length:Int)≤n:=by simpa using I
   exact zk 9 rfl (WP.ret ⟨aa,_,rfl,1,[],_,.arg (by simp only;omega),.inl ⟨by decide,rfl,s0⟩⟩)
  ·intro I
   have I:n<(δ.aq.length:Int):=by simp at I;omega
   refine zk 8 rfl (zf rfl (By _ _) ?_)
   cases cA with
   |true =>
    exact zt rfl (o_load rfl (s.ld (k:=2) rfl kV rfl)) (rfl) (zk 8 rfl (WP.ret ⟨aa,_,rfl,18,[],_,.cA J I rfl,.inl ⟨by decide,rfl,s0⟩⟩))
   |false =>
    refine zh rfl (o_load rfl (by exact s.ld (k:=2) rfl kV rfl)) (rfl) ?_
    refine za rfl (zv (zj rfl (WP.skip (zw (zg rfl (zk 2 rfl (zf rfl (rF _ _) (zl rfl (by exact s.ld (k:=2) rfl jD rfl) ?_))))))))
    refine zm rfl ?_
    rcases iE (n:=n) (fun _ _=>bg.cD _ _) (s.ae [3]) kX br o8 with⟨g1,g2,_⟩|⟨u,b,g1,g2,_,s2⟩
    ·refine au.op rfl rfl rfl (fQ rfl rfl g2) ?_
     refine zk 5 rfl (zv (zg rfl (zm rfl (zv (zj rfl (WP.skip (zg rfl (zk 2 rfl (zf rfl (pW _ _) (zl rfl (by exact s.ld (k:=2) rfl o9 rfl) ?_))))))))))
     refine zm rfl (zc rfl (yc (n:=n) hT (s0.ae [1,1,1,1]) mS.ok mS.pins hw) ?_)
     rintro v h ⟨e,b,ε,hr,(⟨he,rfl,s⟩|⟨rfl,u,rfl,s⟩)⟩
     ·dsimp only[bringA,getA,aE] at s
      exact zk 5 rfl (WP.ret ⟨aa,_,rfl,e,b,ε,.read e b ε J I rfl g1 hr,.inl ⟨he,rfl,s.ae [4]⟩⟩)
     ·dsimp only[bringA,getA,aE] at s
      exact zk 5 rfl (WP.ret ⟨aa,_,rfl,0,b,ε,.read 0 b ε J I rfl g1 hr,.inr ⟨rfl,u,rfl,s.ae [0,4]⟩⟩)
    ·dsimp only[bringA,getA,aE] at s2
     refine zo rfl (fQ rfl rfl g2) (zk 14 rfl ?_)
     have hb:=sR _ (hG g1)
     refine zc rfl (kZ hT s2 (dy _ _) (by simp only at hb;omega)) ?_
     intro v h s
     refine zk 3 rfl (WP.ret ⟨aa,_,rfl,?_⟩)
     have s:=cm.2 ⟨dv,s.ae [3,3,0,0,0,0,0,0,0]⟩
     have s:=eX.2 ⟨nv,s.ae [4,3]⟩
     exact⟨0,b,_,.own b J I rfl g1,.inr ⟨rfl,v,rfl,((s.ae [2,0,0,1,1,1]).del 6)⟩⟩
end
inductive uS (ε:bA)(now:List (Int×List Nat))(cA:Bool)(n:Int)(b:List Nat): Int→List (Int×List Nat)→bA→Prop where
 |may (e:Int) (c:List Nat) (aj:bA) (hr:GRd ε now cA n e c aj) (he:e≠0):uS ε now cA n b e now aj
 |bad (c:List Nat) (aj:bA) (hr:GRd ε now cA n 0 c aj) (hg:cf b=false):uS ε now cA n b 4 now aj
 |done (c:List Nat) (aj:bA) (hr:GRd ε now cA n 0 c aj) (hg:cf b=true):uS ε now cA n b 0 (b8 n b now) aj
theorem uS.lS {cA:Bool}(I:uS ε now cA n b e dM aj)(h:iL ε): iL aj:=by
 cases I with
 |may e c aj I he=>exact I.lS h
 |bad c aj I J=>exact I.lS h
 |done c aj I J=>exact I.lS h
section
variable {told:cJ} {p:Nat} {op v:V} {m:List Fm} {cA:Bool}
theorem Z4 (hT:W told)(s:Sat h (eW g a now cA::dA a p q r op data aH::eo r p q π::bS q p μ::aO p δ::S))(J:iL (π,μ,δ))(hw:δ.waiting.length≤268435456)(I:∀e∈now,e.2.length=512):
  Call ⟨Tryz.prog,told⟩ 89 [.iface 78 (.ptr g 0),.int .i64 n] h fun v h'=>∃(e:Int) (b:List Nat) (ε:bA),GRd (π,μ,δ) now cA n e b ε∧v=.int .i64 e ∧
   Sat h' (eW g a now cA::dA a p q r op data aH::eo r p q ε.1::bS q p ε.2.1::aO p ε.2.2::S):=by
 refine Call.of_wp (hT.free _ rfl) Tryz.func89 rfl rfl (zK 8 rfl (au.any rfl rfl rfl (OpR.invoke rfl rfl rfl FP rfl (Ji (n:=n) hT s J hw I)) ?_))
 rintro v h ⟨e,b,ε,hr,(⟨he,rfl,s⟩|⟨rfl,u,rfl,s⟩)⟩
 ·refine au.op rfl rfl rfl (bn rfl) ?_
  exact zk 10 rfl (WP.ret ⟨aa,_,rfl,e,b,ε,hr,rfl,s⟩)
 ·skip
  exact zk 11 rfl (WP.ret ⟨aa,_,rfl,0,b,ε,hr,rfl,s.drop⟩)
theorem QG (hT:W told)(s:Sat h (eW g a now cA::dA a p q r op data aH::eo r p q π::bS q p μ::aO p δ::X::S))(hX:cN X (cP x b))(hb:b.length<9223372036854775808)(mS:iL (π,μ,δ))(hw:δ.waiting.length≤268435456)(J:∀e∈now,e.2.length=512):
  Call ⟨Tryz.prog,told⟩ 40 [.ptr g 0,.int .i64 n,x] h fun v h'=>∃(e:Int) (dM:List (Int×List Nat)) (ε:bA),uS (π,μ,δ) now cA n b e dM ε∧v=.int .i64 e ∧
   Sat h' (eW g a dM cA::dA a p q r op data aH::eo r p q ε.1::bS q p ε.2.1::aO p ε.2.2::X::S):=by
 refine Call.of_wp (hT.free _ rfl) Tryz.func40 rfl rfl (zK 8 rfl (zo rfl (rU rfl (mki_of qG rfl)) (zm rfl (zc rfl (Z4 (n:=n) hT s mS hw J) ?_))))
 rintro v h ⟨e,c,ε,hr,rfl,s⟩
 refine zk 5 rfl ?_
 by_cases he:e=0
 ·skip
  subst he
  refine zC rfl aD (rfl) (zk 7 rfl (zc rfl (Mc hT (s.ae [5]) hX hb) ?_))
  rintro v h ⟨rfl,s⟩
  refine zo rfl (eU rfl rfl) (zv ?_)
  by_cases I:cf b=true
  ·skip
   refine WP.VA rfl (by rw[I];rfl) ?_
   have acS:=fb I
   obtain⟨nv,s⟩:=eX.1 (s.ae [1])
   have s:=s.ae [2,0,0]
   obtain⟨xh,rfl⟩:=IK s (j:=2) rfl
   refine zK 2 rfl ?_
   have s0:=s
   refine WP.drawn [some (0,2),some (0,2),some (0,2),some (0,2),some (0,2),af,af,af] rfl (by kernel_rfl) (by kernel_rfl) ?_
   refine zM rfl (zN rfl (zF rfl (rF _ _) (zL rfl (s.ld (k:=1) rfl jD rfl) (zM rfl (zM rfl (az.any rfl rfl rfl rfl (OpR.call rfl rfl rfl rfl (kZ hT s hX (by omega))) ?_))))))
   intro u h s
   obtain⟨kz,_,cap,_,rfl,_⟩:=s.fU (by omega)
   have s:=s.gu
   have s1:=s
   refine az.gh rfl rfl rfl (OpR.mapUpdate rfl rfl rfl rfl (lH (f:=fun v b=>aI.cD v b) (x:=b) (fun _ _=>bg.cD _ _) (s.ae [0,2]) kX br)) ?_
   intro w h s
   refine az.nil ⟨⟨fun _ _=>.inr ⟨rfl,⟨_,bn rfl⟩,aS _ rfl⟩,fun _ _=>.inr ⟨rfl,⟨_,kT rfl⟩,aS _ rfl⟩,fun _ _=>.inr ⟨rfl,⟨_,jH rfl (rF _ _)⟩,aS _ rfl⟩,dZ (.inr ⟨rfl,⟨_,o_load rfl (s0.ld (k:=1) rfl jD rfl)⟩,aS _ rfl⟩) (.inr ⟨rfl,⟨_,o_load rfl (s1.ld (k:=2) rfl jD rfl)⟩,aS _ rfl⟩),fun _ _=>.inr ⟨rfl,⟨_,bn rfl⟩,aS _ rfl⟩,aa,aa,aa,aa⟩,?_⟩
   exact zK 4 rfl (WP.ret ⟨aa,_,rfl,0,_,ε,.done c ε hr I,rfl,eX.2 ⟨.map xh,s.ae [2,0,1,1,1,1,0]⟩⟩)
  ·have I:cf b=false:=by simpa using I
   refine WP.NL rfl (by rw[I];rfl) ?_
   exact zK 4 rfl (WP.ret ⟨aa,_,rfl,4,_,ε,.bad c ε hr I,rfl,s.ae [1,1,1,1,1,0]⟩)
 ·skip
  refine zB rfl aD (by simp;exact he) ?_
  exact zk 7 rfl (WP.ret ⟨aa,_,rfl,e,_,ε,.may e c ε hr he,rfl,s⟩)
theorem QH (I:W told)(s:Sat h (eW g a now cA::dA a p q r (.ptr g 0) data aH::S)): Call ⟨Tryz.prog,told⟩ 105 [.ptr g 0] h fun v h'=>v=.aQ []∧Sat h' (eW g a now true::dA a p q r .bq data aH::S):=by
 obtain⟨J,s⟩:=eX.1 s
 obtain⟨dv,s⟩:=cm.1 (s.ae [2])
 refine Call.of_wp (I.free _ rfl) Tryz.func105 rfl rfl (zK 4 rfl (zf rfl (By _ _) ?_))
 refine zS rfl (by exact s.dK (k:=2) rfl yR rfl (by decide) rfl rfl) (fun h s => ?_)
 refine zk 5 rfl (zY s 2 pW o9 rfl (zn rfl (zY s 0 t_ NM rfl (zm rfl (zB rfl (abF qG abd (by decide) (s.row (k:=2) rfl) (s.row (k:=2) rfl) (by decide) (by decide)) (fJ g) ?_)))))
 refine zk 5 rfl (zY s 2 pW o9 rfl (zn rfl (zf rfl (t_ _ _) ?_)))
 refine zS rfl (by exact s.dK (k:=0) rfl ZB rfl (by decide) rfl rfl) (fun h s => ?_)
 refine zv ?_
 have s:=eX.2 ⟨J,(cm.2 ⟨dv,s⟩).ae [1,1]⟩
 exact⟨aa,_,rfl,rfl,s⟩
theorem La (I:W told)(s:Sat h (eW g a now cA::dA a p q r .bq data aH::S)): Call ⟨Tryz.prog,told⟩ 105 [.ptr g 0] h fun v h'=>v=.aQ []∧Sat h' (eW g a now true::dA a p q r .bq data aH::S):=by
 obtain⟨J,s⟩:=eX.1 s
 obtain⟨dv,s⟩:=cm.1 (s.ae [2])
 dsimp only[bringA,getA,aE] at s
 refine Call.of_wp (I.free _ rfl) Tryz.func105 rfl rfl (zK 4 rfl (zf rfl (By _ _) ?_))
 refine zS rfl (by exact s.dK (k:=2) rfl yR rfl (by decide) rfl rfl) (fun h s => ?_)
 dsimp only[sE,Nat.reduceAdd,List.set,setA] at s
 refine zv (zg rfl (zk 2 rfl (zf rfl (pW _ _) (zl rfl (by exact s.ld (k:=2) rfl o9 rfl) ?_))))
 refine zn rfl (zf rfl (t_ _ _) (zl rfl (by exact s.ld (k:=0) rfl NM rfl) ?_))
 refine zm rfl (zh rfl (ay rfl rfl (abE qG)) (rfl) (zv (zj rfl (WP.skip ?_))))
 have s:=eX.2 ⟨J,(cm.2 ⟨dv,s⟩).ae [1,1]⟩
 exact⟨aa,_,rfl,rfl,s⟩
theorem tD (I:W told)(s:Sat h (eW g a now cA::dA a p q r .bq data aH::S)): Call ⟨Tryz.prog,told⟩ 59 [.ptr g 0] h fun v h'=>v=.aQ []∧Sat h' (eW g a now true::dA a p q r .bq data aH::S):=by
 refine Call.of_wp (I.free _ rfl) Au rfl rfl (zK 2 rfl (zc rfl (La I s) ?_))
 rintro v h ⟨rfl,s⟩
 exact zv ⟨aa,_,rfl,rfl,s⟩
end
inductive uT (aK:Int)(er now:List Nat): Nat→List bZ→Prop where
 |done (i:Nat) (h:now.length≤i):uT aK er now i []
 |skip (i:Nat) (l:List bZ) (h:i<now.length) (he:er[i]?=now[i]?) (hr:uT aK er now (i+1) l):uT aK er now i l
 |take (i e:Nat) (l:List bZ) (h1:i<e) (h2:e≤now.length) (h3:er[i]?≠now[i]?) (h4:∀k,e≤k→k<e+8→er[k]?=now[k]?) (hr:uT aK er now e l):uT aK er now i (⟨aK,i,false,(now.take e).drop i⟩::l)
def GQ (aK:Int)(er now:List Nat)(c:List bZ): Prop:=∃l,uT aK er now 12 l∧c=if l=[] then[⟨aK,0,false,[]⟩] else l
theorem uU : ∃i,Tryz.prog.info? 237=some i∧i.size=4∧i.bytes=48 :=
 ⟨_,(show Tryz.prog.info? 237=some ((Tryz.prog.info? 237).getD default) by kernel_rfl),by kernel_rfl,by kernel_rfl⟩
section
variable {told:cJ} {p:Nat} {op v:V} {now:List Nat}
noncomputable def rgO : Code:=cU [1,1,0,1,0,0] ((Tryz.f173.body).getD .skip)
noncomputable def rgI : Code:=cU [1,1,0,1,0,0,1,0,1,1,0,1,0,0] ((Tryz.f173.body).getD .skip)
theorem TJ {I:Nat}{t7:V}{k1 k2:Nat}(s:Sat h S)(vb:getA S k1=some X)(hX:cN X (cP u er))(w8:getA S k2=some Y)(hY:cN Y (cP v now))(oA:er.length=512)(gE:now.length=512): ∀(j i e:Nat) (E:List (Nat×V)) (Q:Ex→List (Nat×V)→H→Prop),i+j=512→I<e→e≤i→(∀k,e≤k→k<i→er[k]?=now[k]?) →
  Has E [(0,.int .i64 pg),(1,u),(2,v),(7,t7),(8,.int .i64 (I:Int)),(9,.int .i64 (e:Int)),(10,.int .i64 (i:Int))] →
  (∀J E',I<J→J≤512→(∀k,J≤k→k<J+8→er[k]?=now[k]?)→Has E' [(0,.int .i64 pg),(1,u),(2,v),(7,t7),(8,.int .i64 (I:Int)),(9,.int .i64 (J:Int))]→Q (.exit 2) E' h) →
  WP ⟨Tryz.prog,told⟩ 71 (.loop rgI) E h Q:=by
 have hv:=s.aG w8 hY
 have hu:=s.aG vb hX
 have hlen:lenV Tryz.prog h 23 v=some (.int .i64 now.length):=aW aJ hv
 intro j
 induction j with
 |zero =>
  intro i e E Q hi h1 h2 hg hE hq
  refine WP.loop (WP.has hE (zK 5 rfl (zo rfl (aP rfl rfl rfl hlen) (zC rfl aT (by grind) ?_))))
  refine zk 8 rfl (WP.exit ?_)
  refine hq e _ h1 (by omega) (fun k k1 _ => ?_) ⟨rfl,rfl,rfl,rfl,rfl,rfl,aa⟩
  by_cases hk:k<i
  ·grind
  ·grind
 |succ j ih =>
  intro i e E Q hi h1 h2 hg hE hq
  have hb:now[i]?=some (now[i]'(by omega)):=bw _
  generalize (now[i]'(by omega))=b at hb
  have hc:er[i]?=some (er[i]'(by omega)):=bw _
  generalize (er[i]'(by omega))=c at hc
  obtain⟨id,off,e1,e2⟩:=fg hv hb
  obtain⟨Dg,off',e3,e4⟩:=fg hu hc
  refine WP.loop (WP.has hE (zK 5 rfl (zo rfl (aP rfl rfl rfl hlen) (zB rfl aT (by grind) ?_))))
  refine zk 3 rfl (zb rfl (by exact bf (aA (by omega) (by omega))) ?_)
  by_cases hd:i<e+8
  ·skip
   refine zB rfl aT (by grind) ?_
   refine zk 5 rfl (WP.block (zw ?_))
   have s0:=s
   refine WP.drawn [af,af,af,af,af,af,af,af,af] rfl (by kernel_rfl) (by kernel_rfl) ?_
   refine zM rfl (zM rfl (zO rfl (c8 (r:=.ptr Dg off') rfl rfl e3) (zL rfl e4 (zM rfl (zM rfl (zO rfl (c8 (r:=.ptr id off) rfl rfl e1) (zL rfl e2 ?_)))))))
   by_cases hbc:c=b
   ·skip
    refine az.kU rfl rfl rfl rfl (ay rfl rfl aD) (by grind) ?_
    refine az.nil ⟨⟨aa,aa,aa,aa,aa,aa,aa,aa,aa,aa⟩,?_⟩
    refine zj rfl (WP.skip (zr rfl (zm rfl (zb rfl (by exact bf (aA (by omega) (by omega))) ?_))))
    refine za rfl (zv ?_)
    exact ih (i+1) e _ Q (by omega) h1 (by omega) (fun k k1 k2=>(by
     grind)) ⟨rfl,rfl,rfl,rfl,rfl,rfl,rfl,aa⟩ hq
   ·skip
    refine az.vl rfl rfl rfl rfl (ay rfl rfl aD) (by grind) ?_
    refine az.nil ⟨⟨aa,aa,aa,aa,aa,aa,aa,aa,aa,aa⟩,?_⟩
    refine zK 3 rfl (zb rfl (by exact bf (aA (by omega) (by omega))) ?_)
    refine za rfl (zv (zr rfl (zm rfl (zb rfl (by exact bf (aA (by omega) (by omega))) ?_))))
    refine za rfl (zv ?_)
    exact ih (i+1) (i+1) _ Q (by omega) (by omega) (by omega) (fun k k1 k2=>absurd k2 (by omega)) ⟨rfl,rfl,rfl,rfl,rfl,rfl,rfl,aa⟩ hq
  ·skip
   refine zC rfl aT (by grind) ?_
   exact zk 3 rfl (WP.exit (hq e _ h1 (by omega) (fun k k1 k2=>hg k k1 (by omega)) ⟨rfl,rfl,rfl,rfl,rfl,rfl,aa⟩))
set_option maxHeartbeats 1000000 in
theorem TK (hT:W told)(hX:cN X (cP u er))(hY:cN Y (cP v now))(oA:er.length=512)(gE:now.length=512): ∀(j i:Nat) (acc:List bZ) (av:V) (cs:List V) (h:H) (E:List (Nat×V)) (Q:Ex→List (Nat×V)→H→Prop),512≤i+j→i≤512→acc.length≤i →
  Sat h (.arr 4 av cs::c9 cs acc::X::Y::S)→(∀l,uT pg er now i l→uT pg er now 12 (acc++l)) →
  Has E [(0,.int .i64 pg),(1,u),(2,v),(7,av),(8,.int .i64 (i:Int))] →
  (∀qT cs' l E' h',uT pg er now 12 l→l.length≤512→Sat h' (.arr 4 qT cs'::c9 cs' l::X::Y::S)→Has E' [(0,.int .i64 pg),(7,qT)]→Q (.exit 0) E' h') →
  WP ⟨Tryz.prog,told⟩ 71 (.loop rgO) E h Q:=by
 intro j
 induction j with
 |zero =>
  intro i acc av cs h E Q hj hi Z5 s I hE hq
  have hlen:lenV Tryz.prog h 23 v=some (.int .i64 now.length):=aW aJ (s.aG (k:=3) rfl hY)
  refine WP.loop (WP.has hE (zK 5 rfl (zo rfl (aP rfl rfl rfl hlen) (zC rfl aT (by grind) ?_))))
  refine zk 2 rfl (WP.exit ?_)
  have:=I [] (.done _ (by omega))
  rw[eZ] at this
  exact hq av cs acc _ _ this (by omega) s ⟨rfl,rfl,aa⟩
 |succ j ih =>
  intro i acc av cs h E Q hj hi Z5 s I hE hq
  have hv:=s.aG (k:=3) rfl hY
  have hu:=s.aG (k:=2) rfl hX
  have hlen:lenV Tryz.prog h 23 v=some (.int .i64 now.length):=aW aJ hv
  by_cases cH:i<512
  ·have hb:now[i]?=some (now[i]'(by omega)):=bw _
   generalize (now[i]'(by omega))=b at hb
   have hc:er[i]?=some (er[i]'(by omega)):=bw _
   generalize (er[i]'(by omega))=c at hc
   obtain⟨id,off,e1,e2⟩:=fg hv hb
   obtain⟨Dg,off',e3,e4⟩:=fg hu hc
   refine WP.loop (WP.has hE (zK 5 rfl (zo rfl (aP rfl rfl rfl hlen) (zB rfl aT (by grind) ?_))))
   refine zk 3 rfl (WP.block (zK 2 rfl ?_))
   have s0:=s
   refine WP.drawn [af,af,af,af,af,af,af,af,af] rfl (by kernel_rfl) (by kernel_rfl) ?_
   refine zM rfl (zM rfl (zO rfl (c8 (r:=.ptr Dg off') rfl rfl e3) (zL rfl e4 (zM rfl (zM rfl (zO rfl (c8 (r:=.ptr id off) rfl rfl e1) (zL rfl e2 ?_)))))))
   by_cases hbc:c=b
   ·skip
    refine az.vl rfl rfl rfl rfl (ay rfl rfl dm) (by grind) ?_
    refine az.nil ⟨⟨aa,aa,aa,aa,aa,aa,aa,aa,aa,aa⟩,?_⟩
    refine zK 4 rfl (zb rfl (by exact bf (aA (by omega) (by omega))) ?_)
    exact zk 2 rfl (WP.exit (ih (i+1) acc av cs h _ Q (by omega) (by omega) (by omega) s (fun l hl=>I l (.skip i l (by omega) (by grind) hl)) ⟨rfl,rfl,rfl,rfl,rfl,aa⟩ hq))
   ·skip
    refine az.kU rfl rfl rfl rfl (ay rfl rfl dm) (by grind) ?_
    refine az.nil ⟨⟨aa,aa,aa,aa,aa,aa,aa,aa,aa,aa⟩,?_⟩
    refine zK 5 rfl (zb rfl (by exact bf (aA (by omega) (by omega))) ?_)
    refine zk 8 rfl (WP.block ?_)
    refine TJ s (k1:=2) (k2:=3) rfl hX rfl hY oA gE (512-(i+1)) (i+1) (i+1) _ _ (by omega) (EY i) (aV _) (fun k k1 k2=>absurd k2 (by omega)) ⟨rfl,rfl,rfl,rfl,rfl,rfl,rfl,aa⟩ (fun e' E' he1 Jj he3 fE => ?_)
    refine WP.has fE ?_
    have Jk:=dc hv (a:=i) (b:=e') (by omega) (by omega)
    refine zK 8 rfl (zo rfl (bU (p:=some (.int .i64 (i:Int))) (q:=some (.int .i64 (e':Int))) (m:=none) (p':=some i) (q':=some e') (m':=none) rfl rfl rfl rfl (by rfl) (by rfl) rfl Jk.1) ?_)
    refine zc rfl (kZ hT (s.ae [3]) (jJ hY (a:=i) (b:=e') (by omega) (by omega)) (by grind)) ?_
    intro w h s
    dsimp only[bringA,getA,aE] at s
    obtain⟨wid,_,J,_,rfl,_⟩:=s.fU (by grind)
    have s:=s.gu
    generalize Gn:(now.take e').drop i=bs at s
    refine zo rfl (cj rfl (by rw[NO];rfl)) ?_
    obtain⟨rv,h1,xj,s1⟩:=kI (P:=Tryz.prog) (k:=4) (x:=.agg [.int .i64 pg,.int .i64 (i:Int),.bool false,.sl wid 0 bs.length J]) s iF nj og rfl (by decide) (by decide) rfl rfl
    dsimp only[V.cells] at s1
    refine au.any rfl rfl rfl (OpR.of (R:=fun v h'=>v=rv∧h'=h1) (oF rfl xj) ⟨rfl,rfl⟩) ?_
    rintro v' h' ⟨rfl,rfl⟩
    obtain⟨i1,kA,jE,qg⟩:=uU
    have jO:cs.length=acc.length*4:=by
     obtain⟨a,b,q1,q2,q3⟩:=s1.at (k:=4) rfl
     exact nI q3
    obtain⟨qT,h2,sD,s2⟩:=gU (s1.ae [3,0]) iF kA nj jE (by omega) rfl (by decide) (by grind)
    dsimp only[bringA,getA,aE] at s2
    refine au.any rfl rfl rfl (OpR.of (R:=fun v h'=>v=qT∧h'=h2) (mI rfl rfl sD) ⟨rfl,rfl⟩) ?_
    rintro v' h' ⟨rfl,rfl⟩
    refine za rfl (zv (zr rfl (zk 2 rfl (zv ?_))))
    have s3:Sat _ (c9 cs acc::.cD (.sl wid 0 bs.length J) bs::_):=s2.ae [4,2]
    have s4:=s3.two (C:=c9 (cs++[.int .i64 pg,.int .i64 (i:Int),.bool false,.sl wid 0 bs.length J]) (acc++[⟨pg,i,false,bs⟩])) (bg.nq _ _) (bg.cD _ _) fun a b q1 q2=>xZ q1 ⟨⟨⟨rfl,rfl,rfl⟩,q2⟩,aa⟩
    have s5:=(s4.ae [1,0,2,1]).del 4
    dsimp only[bringA,getA,aE] at s5
    refine ih e' (acc++[⟨pg,(i:Int),false,bs⟩]) _ _ _ _ Q (by omega) Jj (by grind) s5 (fun l hl => ?_) ⟨rfl,rfl,rfl,rfl,rfl,aa⟩ hq
    have:=I _ (.take i e' l he1 (by omega) (fun hx=>by grind) he3 hl)
    rw[Gn] at this
    rwa [cT]
  ·have hi5:i=512:=by omega
   refine WP.loop (WP.has hE (zK 5 rfl (zo rfl (aP rfl rfl rfl hlen) (zC rfl aT (by simp<;>omega) ?_))))
   refine zk 2 rfl (WP.exit ?_)
   have:=I [] (.done _ (by omega))
   rw[eZ] at this
   exact hq av cs acc _ _ this (by omega) s ⟨rfl,rfl,aa⟩
theorem QI (hT:W told)(s:Sat h (X::Y::S))(hX:cN X (cP u er))(hY:cN Y (cP v now))(I:er.length=512)(J:now.length=512):
  Call ⟨Tryz.prog,told⟩ 173 [.int .i64 pg,u,v] h fun w h'=>∃cs l,GQ pg er now l∧l.length≤512∧Sat h' (.arr 4 w cs::c9 cs l::X::Y::S):=by
 refine Call.of_wp (hT.free _ rfl) Tryz.func173 rfl rfl (zK 13 rfl (WP.block ?_))
 refine TK hT (pg:=pg) hX hY I J 500 12 [] .aY [] _ _ _ (by omega) (by omega) (by simp) ((s.fB aa).kg) (fun l hl=>hl) ⟨rfl,rfl,rfl,rfl,rfl,aa⟩ (fun qT cs' l E' h' hr Cn s' fE => ?_)
 have s:=s'
 have hlen:=s.xg (j1:=0) (j2:=1) rfl rfl iF
 have yV:=s.iz (j:=0) rfl
 refine WP.has fE (zK 4 rfl (zo rfl (aP rfl rfl rfl hlen) ?_))
 by_cases zI:l=[]
 ·skip
  refine zB rfl dm (by grind) ?_
  refine zk 5 rfl (zo rfl (cj rfl (by rw[NO];rfl)) ?_)
  obtain⟨rv,h1,xj,s1⟩:=kI (P:=Tryz.prog) (k:=4) (x:=.agg [.int .i64 pg,.int .i64 0,.bool false,.aY]) s iF nj og rfl (by decide) (by decide) rfl rfl
  dsimp only[V.cells] at s1
  refine au.any rfl rfl rfl (OpR.of (R:=fun v h'=>v=rv∧h'=h1) (oF rfl xj) ⟨rfl,rfl⟩) ?_
  rintro v' h' ⟨rfl,rfl⟩
  refine zk 2 rfl (WP.ret ⟨aa,_,rfl,?_⟩)
  refine⟨[.int .i64 pg,.int .i64 0,.bool false,.aY],[⟨pg,0,false,[]⟩],⟨l,hr,by grind⟩,by simp,?_⟩
  have s2:=(s1.del 2).del 1
  have s3:Sat _ (.cD .aY []::.arr 4 v' _::X::Y::S):=s2.rX
  have s4:=s3.iu (B:=c9 [.int .i64 pg,.int .i64 0,.bool false,.aY] [⟨pg,0,false,[]⟩]) fun a b q=>⟨⟨⟨rfl,rfl,rfl⟩,q⟩,aa⟩
  exact s4.ae [1,0]
 ·skip
  refine zC rfl dm (by simp_all) ?_
  exact zk 8 rfl (WP.ret ⟨aa,_,rfl,_,l,⟨l,hr,by grind⟩,Cn,s⟩)
end
def gq (m:List Fm): Nat:=(m.map (·.changed)).count true
theorem m9 {g:Fm}: ∀ {m:List Fm} {i:Nat},m[i]?=some f→gq (m.set i g)+f.changed.toNat=gq m+g.changed.toNat:=by
 intro m
 induction m with
 |nil=>simp
 |cons x m I =>
  intro i h
  cases i<;>grind[gq]
theorem D8 {g:Fm}(I:g.changed=false): ∀ {m:List Fm} {i:Nat},gq (m.set i g)≤gq m:=by
 intro m i
 cases h:m[i]? with
 |none =>
  grind[List.set_eq_of_length_le]
 |some f =>
  have:=m9 (g:=g) h
  grind
def b6 (ε:bA): Nat:=ε.2.2.waiting.length+gq ε.1.ai
theorem pz : ε.2.2.waiting.length≤b6 ε:=Nat.le_add_right _ _
theorem gv.count (I:gv π cn): gq cn.ai=gq π.ai:=by
 have:cn.ai.map (·.changed)=π.ai.map (·.changed):=by
  refine qY fun i => ?_
  rw[pL,pL]
  cases h:π.ai[i]? with
  |none =>
   have J:π.ai.length≤i:=by grind
   have:cn.ai[i]?=none:=by simp[I.len,J]
   rw[this]
  |some f =>
   obtain⟨t,ht⟩:=I.get i f h
   rw[ht];rfl
 simp only[gq,this]
theorem Jl (h:(δ.bL n b).1≠0): (δ.bL n b).2.waiting=δ.waiting:=by
 unfold Dk.bL at h ⊢
 split
 ·rfl
 ·rename_i I
  split
  ·rfl
  ·rename_i J
   split
   ·rfl
   grind
theorem TL : b6 (outF ε i).2≤b6 ε:=by
 grind[outF,b6,uN,Jl,K3,m9]
theorem Aw : gq (dP π i f).ai≤gq π.ai:=D8 rfl
theorem gx.b6 (J:gx ε n e b aj): Am.b6 aj≤Am.b6 ε:=by
 have sS:∀ {cn:Pl},gv ε.1 cn→∀i,Am.b6 (outF (cn,ε.2) i).2≤Am.b6 ε:=fun {cn} I i=>by
  have:=TL (ε:=(cn,ε.2)) (i:=i)
  refine cM this ?_
  simp only[Am.b6,I.count]
  exact aV _
 cases J with
 |arg _=>simp
 |D3 i f h1 h2 hl hf =>
  grind[m9,Am.b6]
 |out cn i f h1 h2 hl I hf hh he=>grind
 |read cn i f h1 h2 hl I hf hh he J=>exact cM (we Aw _) (sS I i)
 |bad cn i f h1 h2 hl I hf hh he J hc=>exact cM (we Aw _) (sS I i)
 |load cn i f h1 h2 hl I hf hh he J hc=>exact cM (we (cM (D8 rfl) Aw) _) (sS I i)
theorem D9 : gq (unpinF π n).2.ai=gq π.ai:=by
 grind[unpinF,m9]
theorem nr.b6 (I:nr ε n e b aj): Am.b6 aj≤Am.b6 ε:=by
 cases I with
 |dead _=>simp
 |jF e b aj hd I he=>exact I.b6
 |yb b aj hd I he=>have:=I.b6;grind[Am.b6,D9]
 |read b aj hd I he=>have:=I.b6;grind[Am.b6,D9]
theorem GRd.b6 {cA:Bool}(I:GRd ε now cA n e b aj): Am.b6 aj≤Am.b6 ε:=by
 cases I with
 |arg _=>simp
 |cA _ _ _=>simp
 |own _ _ _ _ _=>simp
 |read e b aj J h2 h3 hl I=>exact I.b6
theorem uS.b6 {cA:Bool}(I:uS ε now cA n b e dM aj): Am.b6 aj≤Am.b6 ε:=by
 cases I with
 |may e c aj I he=>exact I.b6
 |bad c aj I J=>exact I.b6
 |done c aj I J=>exact I.b6
inductive iw (now:List (Int×List Nat)): List Int→bA→Int→List bZ→bA→Prop where
 |nil (ε:bA):iw now [] ε 0 [] ε
 |err (n:Int) (l:List Int) (ε:bA) (e:Int) (b:List Nat) (aj:bA) (hr:nr ε n e b aj) (he:e≠0):iw now (n::l) ε e [] aj
 |part (n:Int) (l:List Int) (ε:bA) (er b:List Nat) (aj:bA) (c:List bZ) (e:Int) (cs:List bZ) (k_:bA) (hr:nr ε n 0 er aj) (hb:lookL n now=some b) (hd:(lookL n aj.1.bO).isSome=true) (hc:GQ n er b c) (hl:c.length≤512) (ht:iw now l aj e cs k_):iw now (n::l) ε e (c++cs) k_
 |whole (n:Int) (l:List Int) (ε:bA) (er b:List Nat) (aj:bA) (e:Int) (cs:List bZ) (k_:bA) (hr:nr ε n 0 er aj) (hb:lookL n now=some b) (hd:(lookL n aj.1.bO).isSome=false) (ht:iw now l aj e cs k_):iw now (n::l) ε e (⟨n,0,true,b⟩::cs) k_
theorem iw.lS {l:List Int}{cs:List bZ}(I:iw now l ε e cs aj)(h:iL ε): iL aj:=by
 induction I with
 |nil ε=>exact h
 |err n l ε e b aj I he=>exact I.lS h
 |part n l ε er b aj c e cs J I hb hd hc hl ht ih=>exact ih (I.lS h)
 |whole n l ε er b aj e cs J I hb hd ht ih=>exact ih (I.lS h)
theorem iw.b6 {l:List Int}{cs:List bZ}(I:iw now l ε e cs aj): Am.b6 aj≤Am.b6 ε:=by
 induction I with
 |nil ε=>simp
 |err n l ε e b aj I he=>exact I.b6
 |part n l ε er b aj c e cs J I hb hd hc hl ht ih=>exact cM ih I.b6
 |whole n l ε er b aj e cs J I hb hd ht ih=>exact cM ih I.b6
theorem sU {b:Nat}{v w:V}(I:look E a=some v)(J:look E b=some w): resLE P E h [.tmp a,.tmp b]=some (.aQ [v,w]):=by grind[resLE,mapO,resE]
section
variable {told:cJ} {p:Nat} {op v:V} {cA:Bool}
theorem yh (I:W told)(s:Sat h S): Call ⟨Tryz.prog,told⟩ 107 [.map id] h fun v h'=>∃b,v=.fn (.func 177) [] [.ptr b 0]∧Sat h' (pt b (.cells 1 [.map id] false)::S):=by
 refine Call.of_wp (I.free _ rfl) Tryz.func107 rfl rfl (zg rfl ?_)
 refine au.bD s rfl rfl rfl (dB rfl rfl) (fun p1 h s => ?_)
 exact zk 4 rfl (zo rfl (xQ rfl rfl) (zk 2 rfl (WP.ret ⟨aa,_,rfl,_,rfl,s⟩)))
theorem Ax (I:W told)(s:Sat h (eW g a now cA::S))(hm:now.length≤1048576)(hk:∀n∈now.map (·.1),(Lit.int .i64 n).wf=true):
  Call ⟨Tryz.prog,told⟩ 92 [.ptr g 0] h fun v h'=>Sat h' (.arr 1 v (dY (bP now))::eW g a now cA::S):=by
 obtain⟨nv,s⟩:=eX.1 s
 obtain⟨J,rfl⟩:=IK s (j:=1) rfl
 refine Call.of_wp (I.free _ rfl) Tryz.func92 rfl rfl (zK 8 rfl (zY s 0 rF jD rfl (zc rfl (yh I s) ?_)))
 rintro v h ⟨b,rfl,s⟩
 refine zc rfl (vt I (s.ae [0,1]) (by decide) hm hk) ?_
 intro kv h s
 exact zk 2 rfl (WP.ret ⟨aa,_,rfl,(eX.2 ⟨.map J,(s.ae [3,2,0]).del 3⟩).ae [1]⟩)
noncomputable def cgL : Code:=cU [1,1,0,1,0,0] ((Tryz.f103.body).getD .skip)
set_option maxHeartbeats 1000000 in
theorem Jm (hT:W told)(Mv:ks.length≤65536)(D_:∀n∈ks,(lookL n now).isSome=true)(sR:∀e∈now,e.2.length=512): ∀(j i:Nat) (acc:List bZ) (av:V) (cs:List V) (ε:bA) (h:H) (E:List (Nat×V)) (Q:Ex→List (Nat×V)→H→Prop),i+j=ks.length →
  iL ε→b6 ε≤268435456→acc.length≤512*i →
  Sat h (.arr 4 av cs::c9 cs acc::eW g a now cA::dA a p q r op data aH::eo r p q ε.1::bS q p ε.2.1::aO p ε.2.2::.arr 1 kv (dY ks)::S) →
  Has E [(0,.ptr g 0),(4,av),(13,kv),(14,.int .i64 ks.length),(15,.int .i64 i)] →
  (∀e c aj E' h',iw now (ks.drop i) ε e c aj→e≠0→look E' 2=some .aY→look E' 3=some (.int .i64 e)→Sat h' (eW g a now cA::dA a p q r op data aH::eo r p q aj.1::bS q p aj.2.1::aO p aj.2.2::S)→Q .ret E' h') →
  (∀c aj E' h' qT cs',iw now (ks.drop i) ε 0 c aj→acc.length+c.length≤512*ks.length→Has E' [(4,qT)]→Sat h' (.arr 4 qT cs'::c9 cs' (acc++c)::eW g a now cA::dA a p q r op data aH::eo r p q aj.1::bS q p aj.2.1::aO p aj.2.2::S)→Q (.exit 0) E' h') →
  WP ⟨Tryz.prog,told⟩ 65 (.loop cgL) E h Q:=by
 intro j
 induction j with
 |zero =>
  intro i acc av cs ε h E Q hj mS hw Z5 s hE hr hx
  refine WP.loop (WP.has hE (zg rfl (zC rfl aT (by grind) ?_)))
  refine zk 3 rfl (WP.exit ?_)
  rw[lW (by omega)] at hx
  have s1:=s.del 7
  dsimp only[aE] at s1
  refine hx [] ε _ _ av cs (.nil ε) (by grind) ⟨rfl,aa⟩ ?_
  rw[eZ]
  exact s1
 |succ j ih =>
  intro i acc av cs ε h E Q hj mS hw Z5 s hE hr hx
  have hn:ks[i]?=some (ks[i]'(by omega)):=bw _
  have zJ:ks[i]'(by omega)∈ks:=wq _
  have qA:ks.drop i=ks[i]'(by omega)::ks.drop (i+1):=pJ (by omega)
  generalize (ks[i]'(by omega))=n at hn zJ qA
  have hc:(dY ks)[i]?=some (.int .i64 n):=by simp[dY,hn]
  obtain⟨b,hb⟩:=Option.isSome_iff_exists.1 (D_ n zJ)
  have HS:=sR _ (hG hb)
  simp only at HS
  rw[qA] at hr hx
  obtain⟨id,off,e1,e2⟩:=kJ (P:=Tryz.prog) s (k:=7) rfl hc gW lR
  refine WP.loop (WP.has hE (zg rfl (zB rfl aT (by grind) ?_)))
  refine zk 5 rfl (WP.block (zg rfl (zo rfl (c8 (r:=.ptr id off) rfl rfl e1) (zl rfl (e2 _ dJ) ?_))))
  obtain⟨nv,s⟩:=eX.1 (s.ae [2])
  dsimp only[bringA,getA,aE] at s
  refine zk 6 rfl (zY s 0 pW o9 rfl (zm rfl (zc rfl (yc (n:=n) hT (s.ae [4,4,4,4]) mS.ok mS.pins (cM pz hw)) ?_)))
  rintro v h ⟨e,w,aj,J,(⟨he,rfl,s⟩|⟨rfl,u,rfl,s⟩)⟩
  ·dsimp only[bringA,getA,aE] at s
   refine zk 10 rfl (zB rfl aD (by grind) ?_)
   refine zk 8 rfl (WP.ret (hr e [] aj _ _ (.err n _ ε e w aj J he) he rfl rfl ?_))
   have s:=eX.2 ⟨nv,s.ae [4,4]⟩
   dsimp only[bringA,getA,aE] at s
   exact((s.del 7).del 6).del 5
  ·dsimp only[bringA,getA,aE] at s
   have GR:=J.lS mS
   have uA:=cM J.b6 hw
   have hlen:=J.len mS
   refine zk 10 rfl (zC rfl aD (rfl) ?_)
   have s:=s.gu
   have s:=s.ae [5,5,1,1,1,1,1,1,1,0]
   dsimp only[bringA,getA,aE] at s
   rcases iE (n:=n) (fun _ _=>bg.cD _ _) (s.ae [1]) kX br o8 with⟨g1,g2,_⟩|⟨nw,b',g1,_,g2,s2⟩
   ·grind
   rw[hb] at g1
   have:=cg g1
   subst this
   refine zk 7 rfl (zY s 0 rF jD rfl (zm rfl (zo rfl (fQ rfl rfl g2) ?_)))
   obtain⟨dv,s⟩:=cm.1 (s2.ae [3])
   dsimp only[bringA,getA,aE] at s
   have s:=s.ae [4]
   dsimp only[bringA,getA,aE] at s
   refine zk 6 rfl (zY s 0 pW o9 rfl (zn rfl (zY s 1 tZ Bx rfl (zm rfl (zc rfl (ZV (n:=n) hT (s.ae [5])) ?_)))))
   rintro v h ⟨rfl,s⟩
   dsimp only[bringA,getA,aE] at s
   refine zk 10 rfl ?_
   cases hd:(lookL n aj.1.bO).isSome with
   |true =>
    refine zK 6 rfl (zc rfl (QI hT (u:=u) (v:=nw) (pg:=n) (s.ae [11,4]) (dy _ _) (dy _ _) hlen HS) ?_)
    rintro rv h ⟨Z6,c,hc,jO,s⟩
    dsimp only[bringA,getA,aE] at s
    obtain⟨i1,kA,jE,qg⟩:=uU
    have TM:cs.length=acc.length*4:=by
     obtain⟨a,b,q1,q2,q3⟩:=s.at (k:=12) rfl
     exact nI q3
    have aez:Z6.length=c.length*4:=by
     obtain⟨a,b,q1,q2,q3⟩:=s.at (k:=1) rfl
     exact nI q3
    obtain⟨qT,h2,sD,s2⟩:=gU (s.ae [11,0]) iF kA nj jE (by omega) rfl (by decide) (by omega)
    dsimp only[bringA,getA,aE] at s2
    refine au.any rfl rfl rfl (OpR.of (R:=fun v h'=>v=qT∧h'=h2) (mI rfl rfl sD) ⟨rfl,rfl⟩) ?_
    rintro v' h' ⟨rfl,rfl⟩
    refine za rfl (zv (zr rfl (zb rfl (by exact bf (aA (by omega) (by omega))) ?_)))
    refine zm rfl (zv ?_)
    have s3:Sat _ (c9 cs acc::c9 Z6 c::_):=s2.ae [12,2]
    have s4:=s3.two (C:=c9 (cs++Z6) (acc++c)) (bg.nq _ _) (bg.nq _ _) fun a b q1 q2=>xZ q1 q2
    dsimp only[bringA,getA,aE] at s4
    have s5:=cm.2 ⟨dv,s4.ae [7,7]⟩
    dsimp only[bringA,getA,aE] at s5
    have s6:=eX.2 ⟨nv,s5.ae [7,7]⟩
    dsimp only[bringA,getA,aE] at s6
    have s7:=(((s6.ae [3,2,0,0,3,3,3,3]).del 10).del 9).del 8
    dsimp only[bringA,getA,aE] at s7
    refine ih (i+1) (acc++c) _ _ aj _ _ Q (by omega) GR uA (by grind) s7 ⟨rfl,rfl,rfl,rfl,rfl,aa⟩ (fun e c' I E' h' ht he l2 l3 s' => ?_) (fun c' I E' h' TN TO ht hl fE s' => ?_)
    ·exact hr e _ I E' h' (.part n _ ε w b aj c e c' I J hb hd hc jO ht) he l2 l3 s'
    ·refine hx (c++c') I E' h' TN TO (.part n _ ε w b aj c 0 c' I J hb hd hc jO ht) (by grind) fE ?_<;>grind
   |false =>
    refine zK 5 rfl (zc rfl (kZ hT (s.ae [4]) (dy _ _) (by omega)) ?_)
    intro cw h s
    dsimp only[bringA,getA,aE] at s
    obtain⟨wid,_,TP,_,rfl,_⟩:=s.fU (by omega)
    have s:=s.gu
    refine zo rfl (cj rfl (by rw[NO];rfl)) ?_
    obtain⟨rv,h1,xj,s1⟩:=kI (P:=Tryz.prog) (k:=4) (x:=.agg [.int .i64 n,.int .i64 0,.bool true,.sl wid 0 b.length TP]) s iF nj og rfl (by decide) (by decide) rfl rfl
    dsimp only[V.cells] at s1
    refine au.any rfl rfl rfl (OpR.of (R:=fun v h'=>v=rv∧h'=h1) (oF rfl xj) ⟨rfl,rfl⟩) ?_
    rintro v' h' ⟨rfl,rfl⟩
    obtain⟨i1,kA,jE,qg⟩:=uU
    have TM:cs.length=acc.length*4:=by
     obtain⟨a,b,q1,q2,q3⟩:=s1.at (k:=11) rfl
     exact nI q3
    obtain⟨qT,h2,sD,s2⟩:=gU (s1.ae [10,0]) iF kA nj jE (by omega) rfl (by decide) (by grind)
    dsimp only[bringA,getA,aE] at s2
    refine au.any rfl rfl rfl (OpR.of (R:=fun v h'=>v=qT∧h'=h2) (mI rfl rfl sD) ⟨rfl,rfl⟩) ?_
    rintro v' h' ⟨rfl,rfl⟩
    refine za rfl (zv (zr rfl (zb rfl (by exact bf (aA (by omega) (by omega))) ?_)))
    refine zm rfl (zv ?_)
    have s3:Sat _ (c9 cs acc::.cD (.sl wid 0 b.length TP) b::_):=s2.ae [11,2]
    have s4:=s3.two (C:=c9 (cs++[.int .i64 n,.int .i64 0,.bool true,.sl wid 0 b.length TP]) (acc++[⟨n,0,true,b⟩])) (bg.nq _ _) (bg.cD _ _) fun a b q1 q2=>xZ q1 ⟨⟨⟨rfl,rfl,rfl⟩,q2⟩,aa⟩
    have s5:=cm.2 ⟨dv,s4.ae [6,6]⟩
    have s6:=eX.2 ⟨nv,s5.ae [6,6]⟩
    have s7:=(((s6.ae [3,2,0,0,2,2,2,2]).del 10).del 9).del 8
    dsimp only[bringA,getA,aE] at s7
    refine ih (i+1) (acc++[⟨n,0,true,b⟩]) _ _ aj _ _ Q (by omega) GR uA (by grind) s7 ⟨rfl,rfl,rfl,rfl,rfl,aa⟩ (fun e c' I E' h' ht he l2 l3 s' => ?_) (fun c' I E' h' TN TO ht hl fE s' => ?_)
    ·exact hr e _ I E' h' (.whole n _ ε w b aj e c' I J hb hd ht) he l2 l3 s'
    ·refine hx (⟨n,0,true,b⟩::c') I E' h' TN TO (.whole n _ ε w b aj 0 c' I J hb hd ht) (by grind) fE ?_<;>grind
theorem Ea (J:W told)(s:Sat h (eW g a now cA::dA a p q r op data aH::eo r p q ε.1::bS q p ε.2.1::aO p ε.2.2::S))(mS:iL ε)(hw:b6 ε≤268435456)(I:∀e∈now,e.2.length=512)(hm:now.length≤65536)(hk:∀n∈now.map (·.1),(Lit.int .i64 n).wf=true):
  Call ⟨Tryz.prog,told⟩ 103 [.ptr g 0] h fun v h'=>∃e c aj,iw now (bP now) ε e c aj ∧
   ((e≠0∧v=.aQ [.aY,.int .i64 e]∧Sat h' (eW g a now cA::dA a p q r op data aH::eo r p q aj.1::bS q p aj.2.1::aO p aj.2.2::S)) ∨
    (e=0∧c.length≤33554432∧∃av cs,v=.aQ [av,.int .i64 0]∧Sat h' (.arr 4 av cs::c9 cs c::eW g a now cA::dA a p q r op data aH::eo r p q aj.1::bS q p aj.2.1::aO p aj.2.2::S))):=by
 have hl:(bP now).length=now.length:=by rw[bP,(eR _).length_eq,gD]
 refine Call.of_wp (J.free _ rfl) Tryz.func103 rfl rfl (zK 13 rfl (zc rfl (Ax J s (by omega) hk) ?_))
 intro kv h s
 refine zo rfl (aP rfl rfl rfl (s.fR (n:=(bP now).length) (j:=0) rfl (by simp[dY]) (by decide) gW)) ?_
 refine zk 2 rfl (WP.block ?_)
 have s1:=(((s.fB aa).kg (k:=4)).iu fun a b q=>q).ae [0,0,1,1,1,1,1,0]
 refine Jm J (ks:=bP now) (now:=now) (by omega) (fun n hn => ?_) I (bP now).length 0 [] .aY [] ε _ _ _ (by omega) mS hw (by simp) s1 ⟨rfl,rfl,rfl,rfl,rfl,aa⟩ (fun e c aj E' h' hr he l2 l3 s' => ?_) (fun c aj E' h' av cs hr jO fE s' => ?_)
 ·have:n∈now.map (·.1):=(eR _).mem_iff.1 hn
  cases hq:lookL n now<;>grind[jV]
 ·exact⟨aa,_,sU l2 l3,e,c,aj,hr,.inl ⟨he,rfl,s'⟩⟩
 ·have s:=s'
  exact WP.has fE (zK 6 rfl (WP.ret ⟨aa,_,rfl,0,c,aj,hr,.inr ⟨rfl,by omega,_,_,rfl,s⟩⟩))
end
theorem Ay {n:Nat}(I:cf b=true): (cz b n).length=512:=by
 have J:=xY (n:=n) (fb I)
 rw[cz,cI (by rw[cO];omega),J]
def js (π:Pl)(n:Int)(b:List Nat)(aF:Nat): Int×Pl :=
 (if (lK π n b aF).1=0 then(unpinF (lK π n b aF).2 n).1 else(lK π n b aF).1,(unpinF (lK π n b aF).2 n).2)
def uV (π:Pl)(n:Int)(i:Nat)(f:Fm)(b:List Nat)(aF:Nat): Pl :=
 { π with ai:=π.ai.set i { f with b:=cz b aF,changed:=true,pins:=0 },bO:=b8 n (fS π n aF,true) π.bO }
theorem tE (J:lookL n π.bQ=some (i:Int))(I:π.ai[i]?=some f)(hp:f.pins=1)(hg:cf b=true): js π n b aF=(0,uV π n i f b aF):=by
 have h1:=(uR J I hp).1
 have hi:=(List.getElem?_eq_some_iff.1 I).1
 have e1:lK π n b aF=(0,{ π with ai:=π.ai.set i { f with b:=cz b aF,changed:=true },bO:=b8 n (fS π n aF,true) π.bO }):=by
  simp only[lK,h1,I,hg,Bool.true_eq_false,fA]
 have e2:=(uR (π:={ π with ai:=π.ai.set i { f with b:=cz b aF,changed:=true },bO:=b8 n (fS π n aF,true) π.bO }) (n:=n) (f:={ f with b:=cz b aF,changed:=true }) J (j4 hi) hp).2
 simp only[js,e1,e2,cQ,List.set_set]
 rfl
theorem QJ (J:lookL n π.bQ=some (i:Int))(I:π.ai[i]?=some f)(hp:f.pins=1)(hg:cf b=false): js π n b aF=(4,{ π with ai:=π.ai.set i { f with pins:=0 } }):=by
 have h1:=(uR J I hp).1
 have e1:lK π n b aF=(4,π):=by simp only[lK,h1,I,hg,cQ]
 have e2:=(uR J I hp).2
 simp only[js,e1,e2]
 rfl
theorem XG (h:π.Ok): (lK π n b aF).2.Ok:=by
 unfold lK
 split
 ·exact h
 ·split
  ·exact h
  ·rename_i f J
   have hm:=bK J
   split
   ·exact h
   ·rename_i I
    have I:cf b=true:=by simpa using I
    exact h.set h.bQ (by simp only[Ay I];omega) (h.pins f hm)
theorem gx.put {b0:List Nat}(hr:gx ε n 0 b0 aj)(h:iL ε): iL ((js aj.1 n b aF).2,aj.2)∧Am.b6 ((js aj.1 n b aF).2,aj.2)≤Am.b6 ε+1∧(cf b=true→(js aj.1 n b aF).1=0):=by
 have I:=hr.ok h.ok h.pins
 have J:=(hr.full h.ok.dk h.full).1
 obtain⟨i,f,h1,h2,h3,h4,h5⟩:=hr.at h.pins
 have hm:=bK h2
 have uW:=hr.b6
 cases hg:cf b with
 |true =>
  rw[tE h1 h2 h3 hg]
  refine⟨⟨⟨I.pl.set I.pl.bQ (by simp only[Ay hg];omega) (by simp),I.lg,I.dk⟩,h5 _ rfl,J.set h2 rfl fun _=>Ay hg⟩,?_,fun _=>rfl⟩
  have h6:=m9 (g:={ f with b:=cz b aF,changed:=true,pins:=0 }) h2
  simp only[Bool.toNat_true] at h6
  simp only[Am.b6,uV] at uW ⊢
  omega
 |false =>
  rw[QJ h1 h2 h3 hg]
  refine⟨⟨⟨I.pl.set I.pl.bQ (I.pl.len f hm) (by simp),I.lg,I.dk⟩,h5 _ rfl,J.set h2 rfl fun hl=>hl⟩,?_,fun h=>by cases h⟩
  have h6:=m9 (g:={ f with pins:=0 }) h2
  simp only[Am.b6] at uW h6 ⊢
  omega
inductive PtR (now:List (Int×List Nat))(aF:Nat): List Int→bA→Int→bA→Prop where
 |nil (ε:bA):PtR now aF [] ε 0 ε
 |jF (n:Int) (l:List Int) (ε:bA) (e:Int) (b:List Nat) (aj:bA) (hr:gx ε n e b aj) (he:e≠0):PtR now aF (n::l) ε e aj
 |bad (n:Int) (l:List Int) (ε:bA) (b0 b:List Nat) (aj:bA) (hr:gx ε n 0 b0 aj) (hb:lookL n now=some b) (he:(js aj.1 n b aF).1≠0):PtR now aF (n::l) ε (js aj.1 n b aF).1 ((js aj.1 n b aF).2,aj.2)
 |put (n:Int) (l:List Int) (ε:bA) (b0 b:List Nat) (aj:bA) (e:Int) (k_:bA) (hr:gx ε n 0 b0 aj) (hb:lookL n now=some b) (he:(js aj.1 n b aF).1=0) (ht:PtR now aF l ((js aj.1 n b aF).2,aj.2) e k_):PtR now aF (n::l) ε e k_
theorem PtR.lS {l:List Int}(I:PtR now aF l ε e aj)(h:iL ε): iL aj:=by
 induction I with
 |nil ε=>exact h
 |jF n l ε e b aj I he=>exact⟨I.ok h.ok h.pins,I.Mu he h.pins,(I.full h.ok.dk h.full).1⟩
 |bad n l ε b0 b aj I hb he=>exact(I.put h).1
 |put n l ε b0 b aj e J I hb he ht ih=>exact ih (I.put h).1
theorem PtR.b6 {l:List Int}(I:PtR now aF l ε e aj)(h:iL ε): Am.b6 aj≤Am.b6 ε+l.length:=by
 induction I with
 |nil ε=>exact aV _
 |jF n l ε e b aj I he=>have:=I.b6;omega
 |bad n l ε b0 b aj I hb he=>have:=(I.put (b:=b) (aF:=aF) h).2.1;simp only[bz];omega
 |put n l ε b0 b aj e J I hb he ht ih=>have h1:=ih (I.put h).1;have:=(I.put (b:=b) (aF:=aF) h).2.1;simp only[bz];omega
theorem abG {c:Nat}{kt et:TypeId}{k:IntKind}{z:V}(J:T.get h.tr id=some (.map (es.map qQ) c))(he:lookE n es=some u)(hu:Tryz.prog.underlying t=some (.map kt et))(hk:Tryz.prog.underlying kt=some (.int k))(hz:zeroT Tryz.prog et=some z):
  dX Tryz.prog h t (.map id) (.int .i64 n) false=some u:=by
 have hi:=qd (n:=n) es 0
 simp only[dX,lookupV,hu,hk,hz,J,keyBeq,d_,ah,ud]
 cases I:idxE n es 0 with
 |none=>rw[I] at hi;rw[he] at hi;cases hi
 |some q=>rw[I] at hi;rw[he] at hi;obtain⟨j,w⟩:=q;have:=cg hi;simp only at this;subst this;rfl
section
variable {told:cJ} {p:Nat} {op v:V} {cA:Bool}
noncomputable def dnL : Code:=cU [1,1,1,1,1,1,1,1,0,1,0,0] ((Tryz.f50.body).getD .skip)
set_option maxHeartbeats 1000000 in
theorem QK (hT:W told){dv:V}{xh c:Nat}(Mv:ks.length≤65536)(D_:∀n∈ks,(lookL n now).isSome=true)(sR:∀e∈now,e.2.length=512): ∀(j i:Nat) (ε:bA) (h:H) (E:List (Nat×V)) (Q:Ex→List (Nat×V)→H→Prop),i+j=ks.length →
  iL ε→b6 ε+j≤268435456 →
  Sat h (pt g (.cells 3 [.ptr a 0,.map xh,.bool cA] false)::nH xh es c::fC (fun v b=>.cD v b) es now::pt a (.cells 6 (sE a p q r op dv aH) false)::eo r p q ε.1::bS q p ε.2.1::aO p ε.2.2::.arr 1 kv (dY ks)::S) →
  Has E [(0,.ptr g 0),(6,.ptr a 0),(8,.int .u64 (aF:Int)),(73,kv),(74,.int .i64 ks.length),(75,.int .i64 i)] →
  (∀e aj E' h',PtR now aF (ks.drop i) ε e aj→e≠0→look E' 4=some (.int .u64 0)→look E' 5=some (.int .i64 e)→Sat h' (pt g (.cells 3 [.ptr a 0,.map xh,.bool cA] false)::nH xh es c::fC (fun v b=>.cD v b) es now::pt a (.cells 6 (sE a p q r op dv aH) false)::eo r p q aj.1::bS q p aj.2.1::aO p aj.2.2::S)→Q .ret E' h') →
  (∀aj E' h',PtR now aF (ks.drop i) ε 0 aj→Has E' [(8,.int .u64 (aF:Int))]→Sat h' (pt g (.cells 3 [.ptr a 0,.map xh,.bool cA] false)::nH xh es c::fC (fun v b=>.cD v b) es now::pt a (.cells 6 (sE a p q r op dv aH) false)::eo r p q aj.1::bS q p aj.2.1::aO p aj.2.2::S)→Q (.exit 1) E' h') →
  WP ⟨Tryz.prog,told⟩ 118 (.loop dnL) E h Q:=by
 intro j
 induction j with
 |zero =>
  intro i ε h E Q hj I hw s hE hr hx
  refine WP.loop (WP.has hE (zg rfl (zC rfl aT (by simp<;>omega) ?_)))
  refine zk 3 rfl (WP.exit ?_)
  rw[lW (by omega)] at hx
  exact hx ε _ _ (.nil ε) ⟨rfl,aa⟩ (s.del 7)
 |succ j ih =>
  intro i ε h E Q hj I hw s hE hr hx
  have hn:ks[i]?=some (ks[i]'(by omega)):=bw _
  have zJ:ks[i]'(by omega)∈ks:=wq _
  have qA:ks.drop i=ks[i]'(by omega)::ks.drop (i+1):=pJ (by omega)
  generalize (ks[i]'(by omega))=n at hn zJ qA
  have hc:(dY ks)[i]?=some (.int .i64 n):=by simp[dY,hn]
  obtain⟨b,hb⟩:=Option.isSome_iff_exists.1 (D_ n zJ)
  have HS:=sR _ (hG hb)
  simp only at HS
  rw[qA] at hr hx
  obtain⟨id,off,e1,e2⟩:=kJ (P:=Tryz.prog) s (k:=7) rfl hc gW lR
  refine WP.loop (WP.has hE (zg rfl (zB rfl aT (by simp<;>omega) ?_)))
  refine zk 5 rfl (WP.block (zg rfl (zo rfl (c8 (r:=.ptr id off) rfl rfl e1) (zl rfl (e2 _ dJ) (zk 7 rfl (zY s 3 tZ Bx rfl (zm rfl (zc rfl (Qu (n:=n) hT (s.ae [4,4,4]) I.ok.pl I.pins I.ok.lg I.ok.dk (by have:=pz (ε:=ε);omega)) ?_))))))))
  rintro v h ⟨e,b0,aj,Jn,(⟨he,rfl,s⟩|⟨rfl,u0,rfl,s⟩)⟩
  ·dsimp only[bringA,getA,aE] at s
   refine zk 9 rfl (zB rfl aD (by simp;exact he) ?_)
   exact zk 8 rfl (WP.ret (hr e aj _ _ (.jF n _ ε e b0 aj Jn he) he rfl rfl ((s.ae [3,3,3,3,0,0,0]).del 7)))
  ·dsimp only[bringA,getA,aE] at s
   have s:=s.drop
   have TQ:=Jn.put (b:=b) (aF:=aF) I
   have iO:=Jn.ok I.ok I.pins
   refine zk 9 rfl (zC rfl aD (rfl) (zk 4 rfl ?_))
   have s1:Sat h (fC (fun v b=>.cD v b) es now::_):=s.ae [5]
   obtain⟨_,_,_,_,q3⟩:=s1.at (k:=0) rfl
   rcases tB (n:=n) q3 with⟨_,q4⟩|⟨u,b',g1,g2,_⟩
   ·rw[hb] at q4;cases q4
   rw[hb] at g2
   have:=cg g2
   subst this
   have s2:=(s1.dup (bg.IJ (fun _ _=>bg.cD _ _) _ _)).iu (B:=.cD u b) fun a' b' h'=>by
    rcases tB (n:=n) h' with⟨_,q4⟩|⟨u',b'',g1',g2',g3'⟩
    ·rw[hb] at q4;cases q4
    ·rw[g1] at g1';rw[hb] at g2'
     have h5:=cg g1'
     have h6:=cg g2'
     subst h5;subst h6
     exact g3'
   dsimp only[bringA,getA,aE] at s2
   obtain⟨uid,aeA,aeB,rfl⟩:=iD (s2.aG (k:=0) rfl (dy _ _)) (by omega)
   have s:=s2.ae [2,0]
   dsimp only[bringA,getA,aE] at s
   have s0:=s
   refine WP.drawn [af,af,af,af,af,af,af,af,af,af,af,af,af,af] rfl (by kernel_rfl) (by kernel_rfl) ?_
   refine zM rfl (zN rfl (zF rfl (tZ _ _) (zL rfl (s.ld (k:=7) rfl Bx rfl) (zM rfl (zM rfl (zN rfl (zF rfl (rF _ _) (zL rfl (s.ld (k:=5) rfl jD rfl) (zM rfl (zO rfl (fQ rfl rfl (abG (s.row (k:=6) rfl) g1 kX br o8)) (zM rfl (az.any rfl rfl rfl rfl (OpR.call rfl rfl rfl rfl (Xy (n:=n) (aF:=aF) (b:=b) hT s (dy _ _) iO.pl (by omega))) ?_))))))))))))
   rintro v h ⟨rfl,s⟩
   refine zA rfl ?_
   refine az.nil ⟨⟨aa,aa,aa,aa,aa,aa,aa,aa,aa,aa,aa,aa,aa,aa,aa⟩,?_⟩
   refine zK 5 rfl (zY s 7 tZ Bx rfl (zm rfl (zc rfl (I9 (n:=n) hT s (XG iO.pl)) ?_)))
   rintro v h ⟨rfl,s⟩
   refine zk 5 rfl ?_
   by_cases hg:(lK aj.1 n b aF).1=0
   ·have Mw:(js aj.1 n b aF).1=(unpinF (lK aj.1 n b aF).2 n).1:=by simp only[js,hg,cQ]
    have Mx:(js aj.1 n b aF).2=(unpinF (lK aj.1 n b aF).2 n).2:=rfl
    rw[←Mw,←Mx] at *
    refine zB rfl dm (by simp;exact hg) ?_
    refine zk 9 rfl ?_
    by_cases he:(js aj.1 n b aF).1=0
    ·skip
     refine zC rfl aD (by simp;exact he) ?_
     refine zv (zj rfl (WP.skip (zr rfl (zb rfl (by exact bf (aA (by omega) (by omega))) ?_))))
     refine zm rfl (zv ?_)
     have s9:=(s.ae [5,5,2,4,0,1,1,1]).del 8
     refine ih (i+1) ((js aj.1 n b aF).2,aj.2) _ _ Q (by omega) TQ.1 (by have h9:b6 ((js aj.1 n b aF).2,aj.2)≤b6 ε+1:=TQ.2.1;omega) s9 ⟨rfl,rfl,rfl,rfl,rfl,rfl,aa⟩ (fun e J E' h' ht LJ l4 l5 s' => ?_) (fun J E' h' ht fE s' => ?_)
     ·exact hr e J E' h' (.put n _ ε b0 b aj e J Jn hb he ht) LJ l4 l5 s'
     ·exact hx J E' h' (.put n _ ε b0 b aj 0 J Jn hb he ht) fE s'
    ·skip
     refine zB rfl aD (by simp;exact he) ?_
     exact zk 8 rfl (WP.ret (hr _ _ _ _ (.bad n _ ε b0 b aj Jn hb he) he rfl rfl (((s.ae [5,5,2,4,0,1,1,1]).del 8).del 7)))
   ·have Mw:(js aj.1 n b aF).1=(lK aj.1 n b aF).1:=by simp only[js,hg,fA]
    have Mx:(js aj.1 n b aF).2=(unpinF (lK aj.1 n b aF).2 n).2:=rfl
    rw[←Mw] at hg
    refine zC rfl dm (by simp;rw[←Mw];exact hg) ?_
    refine zk 6 rfl (zB rfl aD (by simp;rw[←Mw];exact hg) ?_)
    refine zk 8 rfl (WP.ret (hr _ _ _ _ (.bad n _ ε b0 b aj Jn hb hg) hg rfl (by rw[Mw];rfl) ?_))
    exact((s.ae [5,5,2,4,0,1,1,1]).del 8).del 7
end
theorem uT.fit {now:List Nat}{l:List bZ}(J:uT pg er now i l)(hn:now.length=512)(h0:0≤pg)(h1:pg<65536): ∀c∈l,c.Ok∧c.b.length≤512:=by
 induction J with
 |done i h=>intro c I;cases I
 |skip i l h he J ih=>exact ih
 |take i e l h2 h3 _ _ J ih =>
  intro c I
  rcases List.mem_cons.1 I with rfl|I
  ·have hl:((now.take e).drop i).length=e-i:=by simp;omega
   refine⟨⟨h0,h1,by simp,by simp only;omega,by simp only[hl];omega,by simp⟩,by simp only[hl];omega⟩
  ·exact ih c I
theorem GQ.fit {now:List Nat}{l:List bZ}(hr:GQ pg er now l)(hn:now.length=512)(I:0≤pg)(J:pg<65536): ∀c∈l,c.Ok∧c.b.length≤512:=by
 obtain⟨m,h2,rfl⟩:=hr
 split
 ·intro c hc
  rw[List.mem_singleton.1 hc]
  exact⟨⟨I,J,by simp,by simp,by simp,by simp⟩,by simp⟩
 ·exact h2.fit hn I J
theorem iw.fit {l:List Int}{cs:List bZ}(hr:iw now l ε e cs aj)(J:∀x∈now,x.2.length=512)(hl:∀n∈l,0≤n∧n<65536): ∀c∈cs,c.Ok∧c.b.length≤512:=by
 induction hr with
 |nil ε=>intro c hc;cases hc
 |err n l ε e b aj hr he=>intro c hc;cases hc
 |part n l ε er b aj c e cs k_ hr hb hd hc jO ht ih =>
  intro x I
  have hn:=hl n bX
  rcases List.mem_append.1 I with I|I
  ·exact hc.fit (J _ (hG hb)) hn.1 hn.2 x I
  ·exact ih (fun m hm=>hl m (bW _ hm)) x I
 |whole n l ε er b aj e cs k_ hr hb hd ht ih =>
  intro x I
  have hn:=hl n bX
  have hb:=J _ (hG hb)
  rcases List.mem_cons.1 I with rfl|I
  ·exact⟨⟨hn.1,hn.2,by simp,by simp,by simp only at hb ⊢;omega,fun _=>⟨rfl,hb⟩⟩,by simp only at hb ⊢;omega⟩
  ·exact ih (fun m hm=>hl m (bW _ hm)) x I
theorem vz : ∀(f n:Nat),(digits f n).length≤f+1:=by
 intro f
 induction f with
 |zero=>intro n;simp[digits]
 |succ f I =>
  intro n
  unfold digits
  split
  ·simp
  ·have:=I (n/128)
   simp only[bz]
   omega
theorem Z7 {c:bZ}(I:c.b.length≤512): (jK c).length≤543:=by
 have J:=vz 9 c.aK.toNat
 have h2:=vz 9 c.pos.toNat
 have h3:=vz 9 c.b.length
 simp only[jK,b7,bz,cG]
 omega
theorem XH : ∀ {l:List bZ},(∀c∈l,c.b.length≤512)→(l.flatMap jK).length≤543*l.length:=by
 intro l
 induction l with
 |nil=>intro _;simp
 |cons c l I =>
  intro h
  have h1:=Z7 (h c bX)
  have h2:=I fun x J=>h x (bW _ J)
  simp only[pM,b7,bz]
  omega
theorem My {l:List bZ}(hl:l.length≤33554432)(h:∀c∈l,c.Ok∧c.b.length≤512)(J:tx<18446744073709551616)(qS:pv<18446744073709551616)(qB:nx<18446744073709551616)(hd:data.length≤35184372088832): DY tx pv nx data l:=by
 have h2:=XH fun c I=>(h c I).2
 refine⟨⟨by omega,fun c I=>by have:=(h c I).2;omega,fun c I => ?_⟩,J,qS,qB,by omega⟩
 have:=(h c I).1
 simp only[bZ.Ok] at this
 omega
theorem yj {l:List bZ}{kd:Int}(I:1≤kd∧kd≤9)(h:∀c∈l,c.Ok∧c.b.length≤512): dV kd l=true:=by
 simp only[dV,bH,ie,tK]
 exact⟨I,fun c J=>(h c J).1⟩
inductive DnR (ε:bA)(now:List (Int×List Nat))(kd:Int)(tx pv nx:Nat)(data:List Nat)(qI:Nat): Nat→Int→Bool→bA→Prop where
 |arg (h:¬(1≤kd∧kd≤7)∨0<qI):DnR ε now kd tx pv nx data qI 0 1 false ε
 |dead (h1:1≤kd) (h2:kd≤7) (h3:qI=0) (h:ε.2.2.dead=true):DnR ε now kd tx pv nx data qI 0 9 false ε
 |nq (e:Int) (c:List bZ) (aj:bA) (h1:1≤kd) (h2:kd≤7) (h3:qI=0) (h:ε.2.2.dead=false) (hc:iw now (bP now) ε e c aj) (he:e≠0):DnR ε now kd tx pv nx data qI 0 e false aj
 |app (c:List bZ) (aj:bA) (h1:1≤kd) (h2:kd≤7) (h3:qI=0) (h:ε.2.2.dead=false) (hc:iw now (bP now) ε 0 c aj) (he:(bp aj.2 kd tx pv nx data c).1.2≠0):DnR ε now kd tx pv nx data qI 0 (bp aj.2 kd tx pv nx data c).1.2 false (aj.1,(bp aj.2 kd tx pv nx data c).2)
 |put (c:List bZ) (aj:bA) (e:Int) (k_:bA) (h1:1≤kd) (h2:kd≤7) (h3:qI=0) (h:ε.2.2.dead=false) (hc:iw now (bP now) ε 0 c aj) (ha:(bp aj.2 kd tx pv nx data c).1.2=0) (hp:PtR now (bp aj.2 kd tx pv nx data c).1.1 (bP now) (aj.1,(bp aj.2 kd tx pv nx data c).2) e k_) :
   DnR ε now kd tx pv nx data qI (if e=0 then(bp aj.2 kd tx pv nx data c).1.1 else 0) e true k_
structure vA (ε aj:bA): Prop where
 base:aj.2.1.base=ε.2.1.base
 b:aj.2.1.b=ε.2.1.b
 cE:aj.2.1.cE=ε.2.1.cE
 check:aj.2.1.check=ε.2.1.check
 log:aj.2.2.log=ε.2.2.log
 room:aj.2.2.room=ε.2.2.room
 aq:aj.2.2.aq=ε.2.2.aq
theorem vA.refl (ε:bA): vA ε ε:=⟨rfl,rfl,rfl,rfl,rfl,rfl,rfl⟩
theorem vA.trans {a b c:bA}(x:vA a b)(y:vA b c): vA a c :=
 ⟨y.base.trans x.base,y.b.trans x.b,y.cE.trans x.cE,y.check.trans x.check,y.log.trans x.log,y.room.trans x.room,y.aq.trans x.aq⟩
theorem ot : δ.cF.2.log=δ.log∧δ.cF.2.room=δ.room∧δ.cF.2.aq=δ.aq:=by
 unfold Dk.cF
 split
 ·simp
 ·split<;>exact⟨rfl,rfl,rfl⟩
theorem yl : (δ.bL n b).2.log=δ.log∧(δ.bL n b).2.room=δ.room∧(δ.bL n b).2.aq=δ.aq:=by
 unfold Dk.bL
 split
 ·simp
 ·split
  ·simp
  ·split<;>exact⟨rfl,rfl,rfl⟩
theorem Jo {x:LD}{n:Nat}: vA (π,x) (π,(bx x n).2):=by
 unfold bx
 split
 ·exact vA.refl _
 ·split
  ·exact⟨rfl,rfl,rfl,rfl,ot.1,ot.2.1,ot.2.2⟩
  ·exact⟨rfl,rfl,rfl,rfl,ot.1,ot.2.1,ot.2.2⟩
theorem vA.to (h:vA ε aj): vA ε (π,aj.2):=⟨h.base,h.b,h.cE,h.check,h.log,h.room,h.aq⟩
structure lM (R:LD→Prop): Prop where
 force:∀(x:LD) (n:Nat),R x→R (bx x n).2
 write:∀(x:LD) (n:Int) (b:List Nat),R x→R (x.1,(x.2.bL n b).2)
section
variable {R:LD→Prop} {cA:Bool} {l:List Int} {cs:List bZ}
theorem lM.out (h:lM R)(I:R ε.2): R (outF ε i).2.2:=by
 unfold outF
 split
 ·exact I
 ·split
  ·exact I
  ·split
   ·exact I
   ·split
    ·exact h.force _ _ I
    ·split
     ·exact h.write _ _ _ (h.force _ _ I)
     ·exact h.write _ _ _ (h.force _ _ I)
theorem lM.jF (h:lM R)(I:gx ε n e b aj)(J:R ε.2): R aj.2:=by
 cases I<;>grind[out]
theorem lM.rd (h:lM R)(I:nr ε n e b aj)(J:R ε.2): R aj.2:=by
 cases I<;>grind[jF]
theorem lM.Az (h:lM R)(J:GRd ε now cA n e b aj)(I:R ε.2): R aj.2:=by
 cases J with
 |arg hn=>exact I
 |cA _ _ _=>exact I
 |own b h1 h2 _ hl=>exact I
 |read e b aj h1 h2 _ hl J=>exact h.rd J I
theorem lM.QL (h:lM R)(I:uS ε now cA n b e dM aj)(J:R ε.2): R aj.2:=by
 cases I with
 |may e c aj I he=>exact h.Az I J
 |bad c aj I hg=>exact h.Az I J
 |done c aj I hg=>exact h.Az I J
theorem lM.ch (h:lM R)(I:iw now l ε e cs aj): R ε.2→R aj.2:=by
 induction I with
 |nil ε=>simp
 |err n l ε e b aj I he=>exact h.rd I
 |part n l ε er b aj c e cs J I hb hd hc jO ht ih=>exact fun hx=>ih (h.rd I hx)
 |whole n l ε er b aj e cs J I hb hd ht ih=>exact fun hx=>ih (h.rd I hx)
theorem lM.pt (h:lM R)(I:PtR now aF l ε e aj): R ε.2→R aj.2:=by
 induction I<;>grind[jF]
theorem QM (ε:bA): lM fun y=>vA ε (ε.1,y) :=
 ⟨fun _ _ h=>h.trans Jo,fun _ _ _ h=>h.trans ⟨rfl,rfl,rfl,rfl,yl.1,yl.2.1,yl.2.2⟩⟩
theorem iw.same (I:iw now l ε e cs aj): vA ε aj:=((QM ε).ch I (vA.refl ε)).to
end
theorem TR {m:Nat}: ∀ {l:List Nat},l.Pairwise (· < ·)→(∀s∈l,s<m)→l.length≤m:=by
 intro l I J
 have key:∀(l:List Nat) (k:Nat),l.Pairwise (· < ·)→(∀s∈l,k≤s∧s<m)→k+l.length≤m∨l=[]:=by
  intro l
  induction l with
  |nil=>simp
  |cons x l ih =>
   intro k I J
   simp only[tI] at I
   have hx:=J x bX
   rcases ih (x+1) I.2 (fun s hs=>⟨I.1 s hs,(J s (bW _ hs)).2⟩) with h|rfl<;>grind
 rcases key l 0 I (fun s hs=>⟨ew _,J s hs⟩) with h|rfl
 ·omega
 ·simp
theorem jk (x:LD)(kd:Int)(tx pv nx:Nat)(data:List Nat)(c:List bZ):
  (∃e:Int,e≠0∧((e=1∧dV kd c=false)∨(e=2∧1048576<(c_ kd tx pv nx data c).length)∨(e=9∧x.2.dead=true)∨(e=7∧x.2.room<x.2.log.length+(fO x.1 kd tx pv nx data c).length))∧bp x kd tx pv nx data c=((0,e),x)) ∨
  (x.2.dead=false∧x.2.aU=0∧bp x kd tx pv nx data c=((0,9),(x.1,{ x.2.die with tail:=fO x.1 kd tx pv nx data c }))) ∨
  (dV kd c=true∧(c_ kd tx pv nx data c).length≤1048576∧x.2.dead=false∧x.2.log.length+(fO x.1 kd tx pv nx data c).length≤x.2.room∧x.2.aU≠0 ∧
   bp x kd tx pv nx data c=((x.1.base+x.1.b.length,0),(x.1.app (fO x.1 kd tx pv nx data c),{ x.2.dh with log:=x.2.log++fO x.1 kd tx pv nx data c }))):=by
 by_cases I:dV kd c=false
 ·grind[bp]
 ·by_cases J:1048576<(c_ kd tx pv nx data c).length
  ·grind[bp]
  ·by_cases hd:x.2.dead=true
   ·grind[Dk.rL,bp]
   grind[Dk.rL,bp]
theorem Co {x:LD}{kd:Int}{c:List bZ}(J:x.1.Ok)(I:x.2.Ok)(hs:x.1.b=x.2.log)(hz:x.1.base+x.1.b.length+1048584≤1099511627776):
  (bp x kd tx pv nx data c).2.1.Ok∧(bp x kd tx pv nx data c).2.2.Ok∧(bp x kd tx pv nx data c).2.1.b=(bp x kd tx pv nx data c).2.2.log∧(bp x kd tx pv nx data c).2.1.base=x.1.base∧(bp x kd tx pv nx data c).2.1.b.length≤x.1.b.length+1048584 ∧
  (bp x kd tx pv nx data c).2.2.waiting=x.2.waiting∧(bp x kd tx pv nx data c).1.1<1099511627776:=by
 have hlen:(fO x.1 kd tx pv nx data c).length=8+(c_ kd tx pv nx data c).length:=mJ _ _
 rcases jk x kd tx pv nx data c with⟨e,_,_,h⟩|⟨hd,hf,h⟩|⟨hg,hb,hd,fG,hf,h⟩
 ·grind
 ·rw[h];exact⟨J,⟨I.aU,I.len,I.room,I.now,I.aq,I.bu,I.many⟩,hs,rfl,Nat.le_add_right _ _,rfl,by simp⟩
 ·rw[h]
  generalize fO x.1 kd tx pv nx data c=rc at hlen fG
  have ad1:=I.room
  have kx:x.1.b.length=x.2.log.length:=by rw[hs]
  have hl:(x.1.b++rc).length=x.1.b.length+rc.length:=b7
  have gE:(x.2.log++rc).length=x.2.log.length+rc.length:=b7
  refine⟨⟨?_,?_,?_,?_,?_,?_,J.check⟩,⟨I.dh.aU,?_,I.room,I.now,I.aq,?_,I.many⟩,?_,rfl,?_,rfl,?_⟩
  ·show x.1.base+(x.1.b++rc).length≤_;omega
  ·have h1:=TR J.FJ J.low
   show(x.1.cE++[x.1.b.length]).length≤_
   grind
  ·intro s hm
   show s<(x.1.b++rc).length
   rcases List.mem_append.1 (show s∈x.1.cE++[x.1.b.length] from hm) with hm|hm
   ·have:=J.low s hm;omega
   ·grind
  ·show(x.1.cE++[x.1.b.length]).Pairwise (·< ·)
   rw[List.pairwise_append]
   refine⟨J.FJ,List.pairwise_singleton _ _,fun a ha b hb => ?_⟩
   rw[List.mem_singleton.1 hb]
   exact J.low a ha
  ·have:=J.forced
   show x.1.forced≤(x.1.b++rc).length;omega
  ·show(x.1.b++rc).length≤_;omega
  ·grind
  ·have:=I.bu
   show x.2.bu≤(x.2.log++rc).length;omega
  ·show x.1.b++rc=x.2.log++rc;rw[hs]
  ·show(x.1.b++rc).length≤_;omega
  ·grind
theorem wf_i64 (I:0≤n)(J:n<4294967296): (Lit.int .i64 n).wf=true:=by
 simp only[Lit.wf,bH,ie]
 have e1:IntKind.min .i64 = -9223372036854775808:=rfl
 have e2:IntKind.max .i64=9223372036854775807:=rfl
 omega
theorem BK {kd:Int}{ch:V}(hd:dt.beq dt=true)(I:ch.beq ch=true): (V.agg (dx kd tx pv nx dt ch)).beq (V.agg (dx kd tx pv nx dt ch))=true:=by
 simp only[dx,V.beq,V.beqL,hd,I,d_,kW,decide_true,iT,ah]
section
variable {told:cJ} {p:Nat} {op v:V} {cA:Bool}
set_option maxHeartbeats 1000000 in
theorem Mz (hT:W told){kd:Int}{qI:Nat}{ch:V}{ccs:List V}(s:Sat h (eW g a now false::dA a p q r (.ptr g 0) fI aH::eo r p q ε.1::bS q p ε.2.1::aO p ε.2.2::X::.arr 4 ch ccs::S))(hX:cN X (cP dt data))(Qa:ccs.length=qI*4)(mS:iL ε)(hw:b6 ε+65536≤268435456)
 (sR:∀e∈now,e.2.length=512)(hm:now.length≤65536)(hk:∀n∈now.map (·.1),0≤n∧n<65536)(qR:tx<18446744073709551616)(qS:pv<18446744073709551616)(qB:nx<18446744073709551616)(hd:data.length≤35184372088832)(CV:ε.2.1.b=ε.2.2.log)(hz:ε.2.1.base+ε.2.1.b.length+1048584≤1099511627776):
  Call ⟨Tryz.prog,told⟩ 50 [.ptr g 0,.agg (dx kd tx pv nx dt ch)] h fun v h'=>∃aF e cl aj,DnR ε now kd tx pv nx data qI aF e cl aj∧v=.aQ [.int .u64 (aF:Int),.int .i64 e] ∧
   Sat h' (eW g a now cl::dA a p q r (cond cl .bq (.ptr g 0)) fI aH::eo r p q aj.1::bS q p aj.2.1::aO p aj.2.2::X::S):=by
 have mD:∀n∈now.map (·.1),(Lit.int .i64 n).wf=true:=fun n hn=>by
  have:=hk n hn
  exact wf_i64 (by omega) (by omega)
 have jx:=s.iz (j:=6) rfl
 have iP:=s.aG (k:=5) rfl hX
 have fo:=jc (kd:=kd) (tx:=tx) (pv:=pv) (nx:=nx) iP.cells.2 jx.2.1
 have hlen:=s.fR (n:=qI) (j:=6) rfl Qa (by decide) iF
 have s0:=s
 obtain⟨nv,s⟩:=eX.1 s
 refine Call.of_wp (hT.free _ rfl) Tryz.func50 rfl rfl (zg rfl (au.bD s rfl rfl rfl (dB rfl fo) ?_))
 intro p1 h s
 dsimp only[V.cells] at s
 have s:Sat h (pt p1 (.cells 6 (dx kd tx pv nx dt ch) false)::_):=s
 have hlen:=s.fR (n:=qI) (j:=8) rfl Qa (by decide) iF
 refine zk 7 rfl (zY s 1 pW o9 rfl (zk 3 rfl (WP.block (zK 4 rfl (zf rfl (By _ _) (zh rfl (o_load rfl (s.ld (k:=1) rfl kV rfl)) (rfl) (zk 5 rfl (zY s 0 jh dJ rfl ?_))))))))
 have fin:∀e:Int,Sat h (eW g a now false::dA a p q r (.ptr g 0) fI aH::eo r p q ε.1::bS q p ε.2.1::aO p ε.2.2::X::S):=fun e=>((eX.2 ⟨nv,s.ae [1,1]⟩).del 7).del 1
 refine zd rfl (ay rfl rfl aT) ?_ ?_
 ·intro hq
  have hq:kd<1:=by simpa using hq
  exact zk 19 rfl (WP.ret ⟨aa,_,rfl,0,1,false,ε,.arg (.inl (by omega)),rfl,fin 0⟩)
 ·intro hq
  have hq:1≤kd:=by simp at hq;omega
  refine zm rfl (zY s 0 jh dJ rfl ?_)
  refine zd rfl (ay rfl rfl fN) ?_ ?_
  ·intro J
   have J:7<kd:=by simpa using J
   exact zk 15 rfl (WP.ret ⟨aa,_,rfl,0,1,false,ε,.arg (.inl (by omega)),rfl,fin 0⟩)
  ·intro J
   have J:kd≤7:=by simp at J;omega
   refine zk 2 rfl (zY s 0 ji o5 rfl (zo rfl (aP rfl rfl rfl hlen) ?_))
   refine zd rfl (ay rfl rfl fN) ?_ ?_
   ·intro I
    have I:0<qI:=by simp at I;omega
    exact zk 9 rfl (WP.ret ⟨aa,_,rfl,0,1,false,ε,.arg (.inr I),rfl,fin 0⟩)
   ·intro I
    have I:qI=0:=by simp at I;omega
    obtain⟨dv,s⟩:=cm.1 (s.ae [3])
    dsimp only[bringA,getA,aE] at s
    refine zk 8 rfl (zY s 0 pU qv rfl (zc rfl (IW hT (s.ae [7])) ?_))
    rintro v h ⟨rfl,rfl⟩
    refine zk 2 rfl ?_
    cases Ic:ε.2.2.dead with
    |true =>
     refine zK 6 rfl (WP.ret ⟨aa,_,rfl,?_⟩)
     have s9:=eX.2 ⟨nv,(cm.2 ⟨dv,s⟩).ae [2,2]⟩
     dsimp only[bringA,getA,aE] at s9
     exact⟨0,9,false,ε,.dead hq J I Ic,rfl,(s9.del 7).del 2⟩
    |false =>
     refine zj rfl (WP.skip (zg rfl (za rfl (zv (zw (zg rfl (zm rfl ?_)))))))
     have s9:=eX.2 ⟨nv,(cm.2 ⟨dv,s⟩).ae [2,2]⟩
     dsimp only[bringA,getA,aE] at s9
     have s:=s9.ae [0,0,1,1,1]
     dsimp only[bringA,getA,aE] at s
     refine zc rfl (Ea hT s mS (by omega) sR hm mD) ?_
     rintro v h ⟨e,c,aj,hc,(⟨he,rfl,s⟩|⟨rfl,jO,av,cs,rfl,s⟩)⟩
     ·refine au.op rfl rfl rfl (bn rfl) ?_
      refine zk 2 rfl (zf rfl (ji _ _) ?_)
      refine zS rfl (by exact s.dK (k:=5) rfl Bt rfl (by decide) rfl rfl) (fun h s => ?_)
      dsimp only[dx,Nat.reduceAdd,List.set,setA] at s
      refine zk 5 rfl (zB rfl aD (by simp;exact he) ?_)
      exact zk 8 rfl (WP.ret ⟨aa,_,rfl,0,e,false,aj,.nq e c aj hq J I Ic hc he,rfl,(s.del 7).del 5⟩)
     ·have yV:=s.iz (j:=0) rfl
      have Jp:=hc.lS mS
      have hcp:=hc.b6
      have D1:=hc.same
      have Z8:=Co (x:=aj.2) (kd:=kd) (tx:=tx) (pv:=pv) (nx:=nx) (data:=data) (c:=c) Jp.ok.lg Jp.ok.dk (by rw[D1.b,D1.log];exact CV) (by rw[D1.base,D1.b];exact hz)
      have fG:=hc.fit sR fun n hn=>hk n ((eR _).mem_iff.1 hn)
      refine zk 3 rfl (zf rfl (ji _ _) (zS rfl (s.dK (k:=7) rfl Bt rfl (show 0+5<6 by decide) yV.1 yV.2.1) ?_))
      intro h s
      dsimp only[dx,Nat.reduceAdd,List.set,setA] at s
      refine zk 5 rfl (zC rfl aD (rfl) ?_)
      obtain⟨dv,s⟩:=cm.1 (s.ae [3])
      dsimp only[bringA,getA,aE] at s
      have s:=s.ae [6,6,7,2,2,0,3]
      dsimp only[bringA,getA,aE] at s
      refine zv (zj rfl (WP.skip (zw ?_)))
      have s0:=s
      have ac1:=cX iP
      have Jq:=BK (kd:=kd) (tx:=tx) (pv:=pv) (nx:=nx) ac1 yV.2.2
      refine WP.drawn [af,af,af,af,af,af,af,af,af,af,af] rfl (by kernel_rfl) (by kernel_rfl) ?_
      refine zM rfl (zN rfl (zF rfl (m8 _ _) (zL rfl (s.ld (k:=5) rfl qw rfl) (zL rfl (s.cV (k:=6) rfl iJ dD) (az.any rfl rfl rfl rfl (OpR.call rfl rfl rfl rfl (Tu (kd:=kd) (tx:=tx) (pv:=pv) (nx:=nx) hT s hX (My jO fG qR qS qB hd) Jp.ok.lg Jp.ok.dk)) ?_)))))
      rintro v h ⟨rfl,s⟩
      refine zM rfl (zO rfl (bY rfl rfl) (zO rfl (bY rfl rfl) (zA rfl (zA rfl ?_))))
      refine az.nil ⟨⟨aa,aa,aa,aa,aa,aa,aa,aa,aa,aa,aa,aa⟩,?_⟩
      refine zK 4 rfl ?_
      have s9:=cm.2 ⟨dv,s.ae [5,6]⟩
      have s:=((((s9.ae [7,0,6,0,0,0]).del 9).del 8).del 7).del 6
      by_cases he:(bp aj.2 kd tx pv nx data c).1.2=0
      ·skip
       refine zC rfl aD (by simp;exact he) ?_
       refine zk 6 rfl (zc rfl (QH hT s) ?_)
       rintro v h ⟨rfl,s⟩
       obtain⟨nv,s⟩:=eX.1 s
       obtain⟨xh,rfl⟩:=IK s (j:=1) rfl
       refine zk 6 rfl (zY s 0 rF jD rfl (zc rfl (yh hT s) ?_))
       rintro v h ⟨kb,rfl,s⟩
       refine zc rfl (vt hT (s.ae [0,1]) (by decide) (by omega) mD) ?_
       intro kv h s
       have hl:(bP now).length=now.length:=by rw[bP,(eR _).length_eq,gD]
       refine zo rfl (aP rfl rfl rfl (s.fR (n:=(bP now).length) (j:=0) rfl (by simp[dY]) (by decide) gW)) ?_
       refine zk 2 rfl (WP.block ?_)
       obtain⟨aeC,es,clock,TS,hb,ju,s⟩:=jZ.1 (s.ae [2])
       injection TS with TS
       subst TS
       obtain⟨dv,s⟩:=cm.1 (s.ae [5])
       have s:=s.ae [6,2,2,0,3,3,3,1]
       refine QK (op:=.bq) (dv:=dv) hT (ks:=bP now) (now:=now) (aF:=(bp aj.2 kd tx pv nx data c).1.1) (by omega) (fun n hn => ?_) sR (bP now).length 0 (aj.1,(bp aj.2 kd tx pv nx data c).2) _ _ _ (by omega) ?_ ?_ s ⟨rfl,rfl,rfl,rfl,rfl,rfl,aa⟩ (fun e k_ E' h' hp LJ l4 l5 s' => ?_) (fun k_ E' h' hp fE s' => ?_)
       ·have:n∈now.map (·.1):=(eR _).mem_iff.1 hn
        cases hq:lookL n now with
        |some _=>rfl
        |none=>exact absurd this (jV.1 hq)
       ·exact⟨⟨Jp.ok.pl,Z8.1,Z8.2.1⟩,Jp.pins,Jp.full⟩
       ·have e1:b6 (aj.1,(bp aj.2 kd tx pv nx data c).2)=b6 aj:=by simp only[b6,Z8.2.2.2.2.2.1]
        rw[e1,hl];omega
       ·rw[gS] at hp
        have e4:look E' 4=some (.int .u64 ((0:Nat):Int)):=l4
        refine⟨aa,_,sU e4 l5,0,e,true,k_,?_,rfl,?_⟩
        ·have:=DnR.put (data:=data) c aj e k_ hq J I Ic hc he hp
         rwa [ak LJ] at this
        ·have s3:=cm.2 ⟨dv,s'.ae [3,6]⟩
         have s4:=jZ.2 ⟨xh,es,clock,rfl,hb,ju,s3.ae [2,2]⟩
         exact eX.2 ⟨.map xh,(s4.ae [2,0,0,0,0,0,1]).del 7⟩
       ·rw[gS] at hp
        have s:=s'
        refine WP.has fE (zK 6 rfl (WP.ret ⟨aa,_,rfl,?_⟩))
        refine⟨_,0,true,k_,?_,rfl,?_⟩
        ·have:=DnR.put (data:=data) c aj 0 k_ hq J I Ic hc he hp
         exact this
        ·have s3:=cm.2 ⟨dv,s.ae [3,6]⟩
         have s4:=jZ.2 ⟨xh,es,clock,rfl,hb,ju,s3.ae [2,2]⟩
         dsimp only[bringA,getA,aE] at s4
         exact eX.2 ⟨.map xh,(s4.ae [2,0,0,0,0,0,1]).del 7⟩
      ·skip
       refine zB rfl aD (by simp;exact he) ?_
       exact zk 8 rfl (WP.ret ⟨aa,_,rfl,0,_,false,_,.app c aj hq J I Ic hc he,rfl,s⟩)
end
def Lg.fresh : Lg:={ base:=1,b:=[],cE:=[],forced:=0,check:=0 }
theorem ym {b c t:Nat}{p v w:V}(I:look E a=some p)(hd:loadV P h t p=some v)(J:look E b=some w)(h3:look E c=some x): resLE P E h [.cell a t,.tmp b,.tmp c]=some (.aQ [v,w,x]):=by
 simp only[resLE,mapO,resE,I,hd,J,h3]
section
variable {told:cJ} {p:Nat} {op v:V} {cA:Bool}
theorem Lb (hT:W told)(s:Sat h (aO p δ::S))(hd:δ.dead=false)(hm:δ.mark=[])(hl:δ.log=[])(hc:δ.bu=0):
  Call ⟨Tryz.prog,told⟩ 63 [.ptr p 0] h fun v h'=>∃q,v=.aQ [.ptr q 0,.int .i64 0]∧Sat h' (bS q p Lg.fresh::aO p δ::S):=by
 refine Call.of_wp (hT.free _ rfl) Tryz.func63 rfl rfl (zK 8 rfl (zc rfl (DV hT s (by rw[hm];decide)) ?_))
 rintro v h (⟨I,_,_⟩|⟨_,b0,rfl,s⟩)
 ·rw[hd] at I;cases I
 rw[hm] at s
 refine zk 10 rfl (zC rfl aD (rfl) (zk 6 rfl (zo rfl (cj rfl (by rw[VG];rfl)) ?_)))
 refine au.bD s rfl rfl rfl (dB rfl rfl) (fun p23 h s => ?_)
 dsimp only[V.cells,List.take,List.length_cons,List.length_nil,Nat.reduceAdd,List.drop,List.cons_append,List.nil_append] at s
 refine zk 7 rfl ?_
 have s:=s.ae [2,0,0]
 dsimp only[bringA,getA,aE] at s
 refine zc rfl (Xo hT s (by rw[hl];decide)) ?_
 rintro v h (⟨I,_,_⟩|⟨_,b1,rfl,s⟩)
 ·rw[hd] at I;cases I
 rw[hl] at s
 have hv:=(s.buf (k:=0) rfl).view.cells
 refine zk 4 rfl (zf rfl (e_ _ _) (zS rfl (s.dK (k:=2) rfl gY rfl (by decide) hv.1 hv.2) ?_))
 intro h s
 dsimp only[Nat.reduceAdd,List.set,setA] at s
 refine za rfl (zv (zg rfl (zm rfl (zh rfl (ay rfl rfl aD) (rfl) (zv (zj rfl (WP.skip (zw (zg rfl (zm rfl (zo rfl (aP rfl rfl rfl (by exact aW aJ (s.aG (k:=3) rfl (aN _ _)))) ?_)))))))))))
 refine zv (WP.block (zg rfl (zt rfl (ay rfl rfl dm) (rfl) (za rfl (zv (zi rfl (WP.skip (zg rfl (za rfl (zv (zw (WP.block (WP.loop (zw (zg rfl (zk 3 rfl (zf rfl (e_ _ _) (zl rfl (by exact s.ld (k:=2) rfl bJ rfl) ?_))))))))))))))))))
 refine zo rfl (aP rfl rfl rfl (aW aJ (s.aG (k:=0) rfl (aN _ _)))) (zC rfl aT (rfl) (zk 2 rfl (WP.exit (zK 6 rfl (zY s 2 e_ bJ rfl (zo rfl (aP rfl rfl rfl (aW aJ (s.aG (k:=0) rfl (aN _ _)))) (zC rfl aT (rfl) (zk 5 rfl ?_))))))))
 have s0:=s
 have J:=cX (s.buf (k:=0) rfl).view
 refine WP.drawn [none,none,some (0,2),some (0,2),some (0,2),some (0,2),some (0,2),none] rfl (by kernel_rfl) (by kernel_rfl) ?_
 refine zM rfl (az.any rfl rfl rfl rfl (OpR.call rfl rfl rfl rfl (Ch hT (s.ae [1]))) ?_)
 rintro v h' ⟨rfl,rfl⟩
 refine zM rfl (zN rfl (zF rfl (e_ _ _) (zL rfl (s.ld (k:=2) rfl bJ rfl) (zO rfl (aP rfl rfl rfl (aW aJ (s.aG (k:=0) rfl (aN _ _)))) (az.kU rfl rfl rfl rfl (ay rfl rfl aT) (by rw[show δ.xX=0 from hc];rfl) ?_)))))
 refine az.nil ⟨⟨aa,aa,fun _ _=>.inr ⟨rfl,⟨_,bn rfl⟩,aS _ rfl⟩,fun _ _=>.inr ⟨rfl,⟨_,kT rfl⟩,aS _ rfl⟩,fun _ _=>.inr ⟨rfl,⟨_,jH rfl (e_ _ _)⟩,aS _ rfl⟩,dZ (.inr ⟨rfl,⟨_,o_load rfl (s0.ld (k:=2) rfl bJ rfl)⟩,J⟩) (.inr ⟨rfl,⟨_,o_load rfl (s.ld (k:=2) rfl bJ rfl)⟩,J⟩),dZ (.inr ⟨rfl,⟨_,aP rfl rfl rfl (aW aJ (s0.aG (k:=0) rfl (aN _ _)))⟩,aS _ rfl⟩) (.inr ⟨rfl,⟨_,aP rfl rfl rfl (aW aJ (s.aG (k:=0) rfl (aN _ _)))⟩,aS _ rfl⟩),aa,aa⟩,?_⟩
 refine zK 7 rfl (zY s 2 e_ bJ rfl (zo rfl (aP rfl rfl rfl (aW aJ (s.aG (k:=0) rfl (aN _ _)))) (zn rfl (zf rfl (wX _ _) ?_))))
 refine zS rfl (by exact s.dK (k:=2) rfl lR rfl (by decide) rfl rfl) (fun h s => ?_)
 refine zk 7 rfl (WP.ret ⟨aa,_,rfl,?_⟩)
 have s1:=(s.del 3).kg (k:=1)
 refine⟨_,rfl,fW.2 ⟨b1,.aY,?_⟩⟩
 exact s1.ae [3,1,0]
theorem AA (J:W told)(s:Sat h (bS q p μ::S))(I:μ.Ok): Call ⟨Tryz.prog,told⟩ 66 [.ptr q 0,.int .u64 ((μ.base:Int)+(μ.b.length:Int))] h fun v h'=>v=.aQ [.agg (dx 0 0 0 0 .aY .aY),.int .u64 0,.int .i64 17]∧Sat h' (bS q p μ::S):=by
 refine Call.of_wp (J.free _ rfl) Jf rfl rfl (zg rfl ?_)
 refine au.bD s rfl rfl rfl (bI jC) (fun p4 h s => ?_)
 refine zk 4 rfl (WP.block (zK 4 rfl ?_))
 have s:=s.ae [1]
 refine zc rfl (ue J s I.size) ?_
 rintro v h' ⟨rfl,rfl⟩
 refine zB rfl dm (by simp) ?_
 refine zk 5 rfl (zo rfl (cj rfl (by rw[rV];rfl)) ?_)
 refine zS rfl (s.eS (j:=1) rfl dD rfl rfl) (fun h s => ?_)
 refine zk 3 rfl ?_
 refine WP.ret ⟨aa,_,ym rfl (s.cV (k:=1) rfl iJ dD) rfl rfl,?_⟩
 exact⟨rfl,s.del 1⟩
theorem TT (J:W told){n:Nat}(s:Sat h (bS q p μ::S))(I:μ.Ok)(hn:n<18446744073709551616)(mP:n≠μ.base+μ.b.length)(B2:μ.hasB n=false): Call ⟨Tryz.prog,told⟩ 66 [.ptr q 0,.int .u64 (n:Int)] h fun v h'=>v=.aQ [.agg (dx 0 0 0 0 .aY .aY),.int .u64 0,.int .i64 1]∧Sat h' (bS q p μ::S):=by
 refine Call.of_wp (J.free _ rfl) Jf rfl rfl (zg rfl ?_)
 refine au.bD s rfl rfl rfl (bI jC) (fun p4 h s => ?_)
 refine zk 4 rfl (WP.block (zK 4 rfl ?_))
 have s:=s.ae [1]
 refine zc rfl (ue J s I.size) ?_
 rintro v h' ⟨rfl,rfl⟩
 refine zC rfl dm (by simp;omega) ?_
 refine zk 7 rfl (zc rfl (Mg (n:=n) J s I hn) ?_)
 rintro v h' ⟨rfl,rfl⟩
 refine zo rfl (eU rfl rfl) (zk 2 rfl (WP.NL rfl (by rw[B2];rfl) ?_))
 refine zg rfl (zo rfl (cj rfl (by rw[rV];rfl)) ?_)
 refine zS rfl (s.eS (j:=1) rfl dD rfl rfl) (fun h s => ?_)
 refine zk 3 rfl ?_
 refine WP.ret ⟨aa,_,ym rfl (s.cV (k:=1) rfl iJ dD) rfl rfl,?_⟩
 exact⟨rfl,s.del 1⟩
theorem Eb (hT:W told){n:Nat}(s:Sat h (bS q p μ::S))(J:μ.Ok)(hn:n<18446744073709551616)(I:n=μ.base+μ.b.length∨μ.hasB n=false): Call ⟨Tryz.prog,told⟩ 66 [.ptr q 0,.int .u64 (n:Int)] h fun v h'=>∃e:Int,e≠0∧v=.aQ [.agg (dx 0 0 0 0 .aY .aY),.int .u64 0,.int .i64 e]∧Sat h' (bS q p μ::S):=by
 by_cases he:n=μ.base+μ.b.length
 ·have:=AA hT s J
  rw[show((μ.base:Int)+(μ.b.length:Int))=((n:Nat):Int) by omega] at this
  exact this.mono fun v h' ⟨h1,h2⟩=>⟨17,by decide,h1,h2⟩
 ·rcases I with I|I
  ·exact absurd I he
  ·exact(TT hT s J hn he I).mono fun v h' ⟨h1,h2⟩=>⟨1,by decide,h1,h2⟩
end
section
variable {told:cJ} {p:Nat} {op v:V} {cA:Bool}
theorem Oe (I:W told){n:Nat}(s:Sat h (dA a p q r op data aH::bS q p μ::S))(J:μ.Ok)(hn:n<18446744073709551616)(B2:n=μ.base+μ.b.length∨μ.hasB n=false):
  Call ⟨Tryz.prog,told⟩ 69 [.ptr a 0,.int .u64 (n:Int)] h fun v h'=>v=.int .i64 0∧Sat h' (dA a p q r op data aH::bS q p μ::S):=by
 obtain⟨dv,s⟩:=cm.1 s
 refine Call.of_wp (I.free _ rfl) Tryz.func69 rfl rfl (zK 6 rfl ?_)
 refine au.sQ s rfl rfl rfl rfl (fun p18 h s => ?_)
 refine au.sQ s rfl rfl rfl rfl (fun p19 h s => ?_)
 refine zo rfl (cj rfl (by rw[VR];rfl)) ?_
 refine au.bD s rfl rfl rfl (dB rfl rfl) (fun ZW h s => ?_)
 refine zk 5 rfl (zo rfl (xQ rfl rfl) (zk 8 rfl (WP.block (WP.loop (WP.block (zK 4 rfl (zY s 3 m8 qw rfl (zm rfl ?_))))))))
 have s1:=s.ae [5]
 refine zc rfl (Eb (n:=n) I s1 J hn B2) ?_
 rintro v h ⟨e,he,rfl,s⟩
 refine zk 4 rfl ?_
 refine au.bD s rfl rfl rfl (bI jC) (fun p8 h s => ?_)
 refine zS rfl (s.eS (j:=0) rfl dD rfl rfl) (fun h s => ?_)
 refine zk 7 rfl (zB rfl aD (by simp;exact he) ?_)
 have s:=pq (f:=fun v (b:List Nat)=>.cD v b) (s.ae [4])
 refine zk 2 rfl (WP.exit (zK 5 rfl (zY s 3 pY jD rfl (zc rfl (yh I s) ?_))))
 rintro v h ⟨kb,rfl,s⟩
 refine zc rfl (vt I s (by decide) (by decide) (by simp)) ?_
 intro kv h s
 refine zo rfl (aP rfl rfl rfl (s.fR (n:=0) (j:=0) rfl rfl (by decide) gW)) ?_
 exact zk 2 rfl (WP.block (WP.loop (zg rfl (zC rfl aT (rfl) (zk 3 rfl (WP.exit (zK 5 rfl (zY s 5 pY jD rfl (zo rfl (aP rfl rfl rfl (CJ (s.ae [2]) kX)) (zB rfl dm (rfl) (zk 6 rfl (WP.ret ⟨aa,_,rfl,rfl,((((((cm.2 ⟨dv,s.ae [7,7,4]⟩).del 7).del 6).del 5).del 4).del 3).del 2⟩))))))))))))
theorem Lg.Jr : Lg.fresh.Ok:=⟨by decide,by decide,by simp[Lg.fresh],List.Pairwise.nil,by decide,by decide,by decide⟩
theorem Cp (I:W told){n:Nat}(s:Sat h (aO p δ::S))(h1:1≤n)(h2:n≤1024)(hd:δ.dead=false)(hm:δ.mark=[])(J:δ.log=[])(hc:δ.bu=0):
  Call ⟨Tryz.prog,told⟩ 19 [.ptr p 0,.int .i64 (n:Int)] h fun v h'=>∃a q r,v=.aQ [.ptr a 0,.int .i64 0]∧Sat h' (dA a p q r .bq [] 0::eo r p q (Pl.fresh n)::bS q p Lg.fresh::aO p δ::S):=by
 refine Call.of_wp (I.free _ rfl) Tryz.func19 rfl rfl (zK 9 rfl (zC rfl aT (by simp<;>omega) ?_))
 refine zk 2 rfl (zC rfl fN (by simp<;>omega) ?_)
 refine zk 7 rfl (zc rfl (Lb I s hd hm J hc) ?_)
 rintro v h ⟨q,rfl,s⟩
 refine zk 10 rfl (zC rfl aD (rfl) (zk 8 rfl (zc rfl (Mt (p:=p) (q:=q) (n:=n) I s) ?_)))
 rintro v h (⟨hn,_,_⟩|⟨_,_,r,rfl,s⟩)
 ·omega
 rw[cL] at s
 refine zk 10 rfl (zC rfl aD (rfl) (zk 8 rfl (zo rfl (cj rfl (by rw[VE];rfl)) ?_)))
 refine au.bD s rfl rfl rfl (dB rfl rfl) (fun p44 h s => ?_)
 refine zk 5 rfl (zc rfl (sC I (s.ae [2])) ?_)
 rintro v h' ⟨rfl,rfl⟩
 refine zk 6 rfl (zc rfl (Ci I (s.ae [2])) ?_)
 rintro v h' ⟨rfl,rfl⟩
 refine zk 5 rfl (zC rfl aD (rfl) (zk 8 rfl ?_))
 have s1:=cm.2 ⟨.aY,(s.rX).ae [1,0]⟩
 refine zc rfl (Oe (n:=1) I (s1.ae [0,1]) Lg.Jr (by decide) (.inl rfl)) ?_
 rintro v h ⟨rfl,s⟩
 exact zk 5 rfl (zC rfl aD (rfl) (zk 9 rfl (WP.ret ⟨aa,_,rfl,_,q,r,rfl,s.ae [0,1,0]⟩)))
end
section
variable {told:cJ} {p:Nat} {op v:V} {cA:Bool}
theorem ou (I:W told)(s:Sat h (dA a p q r op data aH::S)): Call ⟨Tryz.prog,told⟩ 15 [.ptr a 0] h fun v h'=>v=.ptr q 0∧h'=h:=by
 obtain⟨dv,s⟩:=cm.1 s
 exact Call.of_wp (I.free _ rfl) Tryz.func15 rfl rfl (zK 8 rfl (zY s 0 m8 qw rfl (zk 2 rfl (WP.ret ⟨aa,_,rfl,rfl,rfl⟩))))
theorem TU (I:W told)(s:Sat h (dA a p q r op data aH::S)): Call ⟨Tryz.prog,told⟩ 145 [.ptr a 0] h fun v h'=>v=.ptr p 0∧h'=h:=by
 obtain⟨dv,s⟩:=cm.1 s
 exact Call.of_wp (I.free _ rfl) Tryz.func145 rfl rfl (zK 8 rfl (zY s 0 pU qv rfl (zk 2 rfl (WP.ret ⟨aa,_,rfl,rfl,rfl⟩))))
theorem GS (J:W told){n:Nat}(s:Sat h (dA a p q r op data aH::bS q p μ::aO p δ::S))(I:μ.Ok)(hf:δ.aU<4294967296):
  Call ⟨Tryz.prog,told⟩ 42 [.ptr a 0,.int .u64 (n:Int)] h fun v h'=>v=.int .i64 (bx (μ,δ) n).1∧Sat h' (dA a p q r op data aH::bS q p (bx (μ,δ) n).2.1::aO p (bx (μ,δ) n).2.2::S):=by
 obtain⟨dv,s⟩:=cm.1 s
 refine Call.of_wp (J.free _ rfl) Tryz.func42 rfl rfl (zK 8 rfl (zY s 0 m8 qw rfl (zm rfl (zc rfl (Mk (n:=n) J (s.ae [2,2]) I hf) ?_))))
 rintro v h ⟨rfl,s⟩
 exact zk 2 rfl (WP.ret ⟨aa,_,rfl,rfl,cm.2 ⟨dv,s.ae [2,2]⟩⟩)
end
section
variable {told:cJ} {p:Nat} {op v:V} {cA:Bool}
theorem Ec (I:W told)(s:Sat h (dA a p q r op data aH::S))(J:data.length<1073741824): Call ⟨Tryz.prog,told⟩ 54 [.ptr a 0] h fun v h'=>∃w,v=.aQ [w,.int .u64 (aH:Int)]∧Sat h' (aZ w data::dA a p q r op data aH::S):=by
 obtain⟨dv,s⟩:=cm.1 s
 refine Call.of_wp (I.free _ rfl) Tryz.func54 rfl rfl (zK 6 rfl ?_)
 have s:=s.ae [1]
 have s0:=s
 refine WP.drawn [af,af,af,af,af,some (0,2),some (0,2),some (0,2),some (0,2),none,none] rfl (by kernel_rfl) (by kernel_rfl) ?_
 refine zM rfl (zN rfl (zF rfl (L0 _ _) (zL rfl (s.ld (k:=1) rfl bJ rfl) (az.any rfl rfl rfl rfl (OpR.call rfl rfl rfl rfl (kZ I s (dy _ _) J)) ?_))))
 intro w h s
 refine zM rfl (zN rfl (zF rfl (Fz _ _) (zL rfl (s.ld (k:=2) rfl dL rfl) (zA rfl (zA rfl ?_)))))
 refine az.nil ⟨⟨aa,aa,aa,aa,aa,fun _ _=>.inr ⟨rfl,⟨_,bn rfl⟩,aS _ rfl⟩,fun _ _=>.inr ⟨rfl,⟨_,kT rfl⟩,aS _ rfl⟩,fun _ _=>.inr ⟨rfl,⟨_,jH rfl (Fz _ _)⟩,aS _ rfl⟩,dZ (.inr ⟨rfl,⟨_,o_load rfl (s0.ld (k:=1) rfl dL rfl)⟩,aS _ rfl⟩) (.inr ⟨rfl,⟨_,o_load rfl (s.ld (k:=2) rfl dL rfl)⟩,aS _ rfl⟩),aa,aa,aa⟩,?_⟩
 refine WP.ret ⟨aa,_,rfl,?_⟩
 exact⟨w,rfl,(cm.2 ⟨dv,s.ae [2,1]⟩).ae [1]⟩
end
theorem Of : ∀ {l:List Nat},(∀b∈l,b<256)→bytesOf (ofBytes l)=some l:=by
 intro l
 induction l with
 |nil=>intro _;rfl
 |cons b l J =>
  intro h
  have I:=J fun x hx=>h x (bW _ hx)
  have h2:=h b bX
  rw[ofBytes] at I
  simp only[ofBytes,fu,bytesOf,I,aB,E8,and_true]
  omega
theorem cvS {v:V}(I:View h v l): convV Tryz.prog h 23 9 v=some (.str l,h):=by
 obtain⟨J,(⟨rfl|⟨ea,rfl⟩,rfl⟩|⟨id,off,cap,n,cs,st,rfl,hg,hl,ho,hc,_⟩)⟩:=I
 ·simp only[convV,aJ,uG,Tryz.underlying5]
 ·simp only[convV,aJ,uG,Tryz.underlying5]
 ·have e:rdN h id off l.length=some (ofBytes l):=by rw[Ae hg hl ho,hc]
  simp only[convV,aJ,uG,Tryz.underlying5,e,Of J]
def V7 (l:List Nat): List Nat:=if l.length≠512∨l=List.replicate 512 0 then[] else l.drop 12
structure DK (δ ya:Dk): Prop where
 dead:ya.dead=δ.dead
 aU:ya.aU=δ.aU
 aq:ya.aq=δ.aq
 now:ya.now=δ.now
theorem DK.refl (δ:Dk): DK δ δ:=⟨rfl,rfl,rfl,rfl⟩
theorem DK.at (h:DK δ ya)(n:Int): ya.at n=δ.at n:=by rw[Dk.at,Dk.at,h.now,h.aq]
structure DA (N:Nat)(δ:Dk): Prop where
 alive:δ.dead=false
 aU:δ.aU<0
 aq:δ.aq.length=N
 keys:∀k:Int,k∈δ.now.map (·.1)→0≤k∧k<N
 nodup:(δ.now.map (·.1)).Nodup
 good:∀n:Int,0≤n→n<N→gM (δ.at n)=0
theorem DA.of (h:DA N δ)(k:DK δ ya): DA N ya :=
 ⟨k.dead.trans h.alive,by rw[k.aU];exact h.aU,by rw[k.aq];exact h.aq,by rw[k.now];exact h.keys,by rw[k.now];exact h.nodup,fun n a b=>by rw[k.at];exact h.good n a b⟩
theorem jQ (h:δ.aU<0): δ.dh=δ:=by
 have:(if 0<δ.aU then δ.aU-1 else δ.aU)=δ.aU:=ak (by omega)
 rw[Dk.dh,this]
theorem TV (h:DA N δ): δ.cF=(0,{ δ with bu:=δ.log.length }):=by
 rw[Dk.cF,ak (by rw[h.alive];decide),ak (by have:=h.aU;omega),jQ h.aU]
theorem GU {x:LD}{n:Nat}(h:DA N x.2): (bx x n).1=0∧DK x.2 (bx x n).2.2:=by
 unfold bx
 split
 ·exact⟨rfl,DK.refl _⟩
 ·rw[TV h,ak (by simp)]
  exact⟨rfl,rfl,rfl,rfl,rfl⟩
theorem TW (h:DA N δ)(h0:0≤n)(h1:n<N)(hb:b.length=512)(hc:gM b=0):
  (δ.bL n b).1=0∧DA N (δ.bL n b).2∧∀m,(δ.bL n b).2.at m=if n=m then b else δ.at m:=by
 have e:δ.bL n b=(0,δ.wr n b):=by
  rw[Dk.bL,ak (by rw[h.alive];decide),ak (not_not_intro ⟨h0,by rw[h.aq];exact h1,hb⟩),ak (by have:=h.aU;omega)]
 have sR:(δ.wr n b).now=b8 n b δ.now:=rfl
 have gP:(δ.wr n b).aq=δ.aq:=rfl
 have I:∀m,(δ.wr n b).at m=if n=m then b else δ.at m:=fun m=>by
  grind[Dk.at,fH]
 have J:(δ.wr n b).aU=δ.aU:=by
  show δ.dh.aU=δ.aU
  rw[jQ h.aU]
 rw[e]
 refine⟨rfl,⟨h.alive,by rw[J];exact h.aU,h.aq,fun x hx => ?_,?_,fun m a c => ?_⟩,I⟩
 ·rcases pn.1 hx with rfl|hx
  ·omega
  ·exact h.keys x hx
 ·exact iN h.nodup
 ·rw[I]
  by_cases hm:n=m
  ·grind
  ·rw[ak hm];exact h.good m a c
theorem laidP_get : ∀ {l:List (Int×List Nat)} {m:List (Option (List Nat))} {n:Int} {N:Nat},m.length=N→(l.map (·.1)).Nodup→(∀k:Int,k∈l.map (·.1)→0≤k∧k<N)→0≤n→(laidP l m)[n.toNat]?=match lookL n l with
  |some b=>some (some b)
  |none=>m[n.toNat]?:=by
 intro l
 induction l with
 |nil=>intro m n N _ _ _ _;rfl
 |cons e l ih =>
  intro m n N hm hd J hn
  have I:e.1∉l.map (·.1)∧(l.map (·.1)).Nodup:=List.nodup_cons.1 hd
  have h1:=J e.1 (by simp)
  rw[laidP,ih (N:=N) (by grind) I.2 (fun x hx=>J x (by grind)) hn]
  grind[lookL,jV]
theorem Lc {m:List Nat}{b:Nat}(J:a+m.length≤l.length)(h2:a+m.length≤b): (a_ l a m).drop b=l.drop b:=by
 have I:(l.take a).length=a:=by grind
 rw[a_,←cT,A_,lW (by grind),dU,List.drop_drop,b7,I]
 congr 1;omega
theorem yn {m:List Nat}(h:a+m.length≤l.length): (a_ l a m)[i]?=if a≤i∧i<a+m.length then m[i-a]? else l[i]?:=by
 grind[a_]
theorem yo {m:List Nat}(I:l.drop 12=m.drop 12)(J:12≤a): dF l a z=dF m a z:=by
 have e:∀l:List Nat,(l.take (a+z)).drop a=((l.drop 12).drop (a-12)).take z:=fun l=>by
  simp_all[tL]
 rw[dF,dF,e,e,I]
theorem Ld {m:List Nat}(I:l.drop 12=m.drop 12){low:Nat}: ∀(n i:Nat) (t:List Bool),cellsL l low n i t=cellsL m low n i t:=by
 intro n
 induction n<;>grind[dS,yo,jq,cellsL]
theorem Ed {m:List Nat}(J:l.length=m.length)(I:l.drop 12=m.drop 12): cf l=cf m:=by
 have e1:lI l=lI m:=yo I (by omega)
 have e2:jj l=jj m:=yo I (by omega)
 have e3:l.getD 13 0=m.getD 13 0:=by
  have:∀l:List Nat,l[13]?=(l.drop 12)[1]?:=fun l=>by simp
  grind
 grind[cf,Ld]
theorem sG : ∀(k n:Nat),leN (le k n)=n%256^k:=by
 intro k
 induction k<;>grind[le,leN,Nat.mod_mul]
theorem nL {n:Nat}(J:b.length=512): (cz b n).drop 12=b.drop 12∧(cz b n).length=512∧(cz b n).drop 4=(oG b n).drop 4∧dF (cz b n) 0 4=DU 0 ((oG b n).drop 4)%4294967296:=by
 have h1:=xY (n:=n) J
 have h2:(cz b n).length=512:=by grind[cz,cI,cO]
 have I:(cz b n).drop 4=(oG b n).drop 4:=by rfl
 have h4:(oG b n).drop 12=b.drop 12:=by grind[oG,Lc,cO]
 refine⟨?_,h2,I,?_⟩
 ·have:=iW (List.drop 8) I
  grind[List.drop_drop]
 ·have e:(cz b n).take 4=le 4 (DU 0 ((oG b n).drop 4)):=by
   rfl
  grind[dF,sG]
theorem XI {n:Nat}(I:∀x∈b,x<256): ∀x∈oG b n,x<256:=Ad I (NV _ _)
theorem GV {n:Nat}(I:cf b=true)(hb:∀x∈b,x<256): gM (cz b n)=0∧cf (cz b n)=true∧V7 (cz b n)=b.drop 12:=by
 have J:=fb I
 obtain⟨h1,h2,h3,h4⟩:=nL (n:=n) J
 have IG:cf (cz b n)=true:=by grind[Ed]
 have hz:cf (List.replicate 512 0)=false:=by decide +kernel
 grind[CP,XI,gM,V7]
def pgA (ε:bA)(n:Int): List Nat:=match lookL n ε.1.bQ with
 |some i=>match ε.1.ai[i.toNat]? with
  |some f=>f.b
  |none=>ε.2.2.at n
 |none=>ε.2.2.at n
structure TX (N:Nat)(δ:Dk)(bQ:List (Int×Int))(i:Nat)(f:Fm): Prop where
 lt:f.aK<N
 here:lookL f.aK bQ=some (i:Int)
 aH:gM f.b=0
 same:f.changed=false→f.b=δ.at f.aK
 nq:f.changed=true→cf f.b=true
structure EC (N:Nat)(ε:bA): Prop where
 dk:DA N ε.2.2
 nodup:(ε.1.bQ.map (·.1)).Nodup
 mA:∀(n i:Int),lookL n ε.1.bQ=some i→0≤n∧∃(j:Nat) (f:Fm),i=j∧ε.1.ai[j]?=some f∧f.aK=n
 back:∀(i:Nat) (f:Fm),ε.1.ai[i]?=some f→f.aK<0∨TX N ε.2.2 ε.1.bQ i f
 AB:∀k:Int,k∈ε.1.bO.map (·.1)→0≤k∧k<N
 GW:(ε.1.bO.map (·.1)).Nodup
theorem pE (h:lookL n ε.1.bQ=some (j:Int))(I:ε.1.ai[j]?=some f): pgA ε n=f.b:=by
 grind[pgA]
theorem nM (h:lookL n ε.1.bQ=none): pgA ε n=ε.2.2.at n:=by simp only[pgA,h]
theorem EC.cases (h:EC N ε)(n:Int): (∃(j:Nat) (f:Fm),lookL n ε.1.bQ=some (j:Int)∧ε.1.ai[j]?=some f∧f.aK=n∧0≤n∧TX N ε.2.2 ε.1.bQ j f∧pgA ε n=f.b)∨(lookL n ε.1.bQ=none∧pgA ε n=ε.2.2.at n):=by
 cases J:lookL n ε.1.bQ with
 |none=>grind[nM]
 |some i =>
  obtain⟨h0,j,f,rfl,I,hp⟩:=h.mA n i J
  refine .inl ⟨j,f,rfl,I,hp,h0,?_,pE J I⟩
  rcases h.back j f I with h1|h1
  ·omega
  ·exact h1
theorem ql {m:List Fm}{g x:Fm}(I:m[i]?=some f)(J:(m.set i g)[j]?=some x): (i=j∧x=g)∨(i≠j∧m[j]?=some x):=by
 grind
theorem EC.set {g:Fm}{y:Lg}(h:EC N ε)(hf:ε.1.ai[i]?=some f)(hp:g.aK=f.aK)(oU:DA N δ)
 (hg:g.aK<0∨TX N δ ε.1.bQ i g)(ho:∀(j:Nat) (x:Fm),i≠j→ε.1.ai[j]?=some x→0≤x.aK→δ.at x.aK=ε.2.2.at x.aK)(hd:∀k:Int,k∈d.map (·.1)→0≤k∧k<N)(sX:(d.map (·.1)).Nodup):
  EC N ({ ε.1 with ai:=ε.1.ai.set i g,bO:=d },(y,δ)):=by
 refine⟨oU,h.nodup,fun n k hk => ?_,fun j x J => ?_,hd,sX⟩
 ·obtain⟨h0,j,x,rfl,J,GX⟩:=h.mA n k hk<;>grind
 ·rcases ql hf J with⟨rfl,rfl⟩|⟨si,J⟩
  ·exact hg
  ·rcases h.back j x J with I|I
   ·omega
   ·by_cases h2:x.aK<0
    ·omega
    ·refine .inr ⟨I.lt,I.here,I.aH,fun hc => ?_,I.nq⟩
     rw[ho j x si J (by omega)];exact I.same hc
theorem MA {g:Fm}{x:LD}(I:ε.1.ai[i]?=some f)(J:g.b=f.b)(hx:lookL n ε.1.bQ=none→x.2.at n=ε.2.2.at n)(hy:∀j:Int,lookL n ε.1.bQ=some j→∃f',ε.1.ai[j.toNat]?=some f'):
  pgA ({ ε.1 with ai:=ε.1.ai.set i g,bO:=d },x) n=pgA ε n:=by
 unfold pgA
 grind
theorem EC.there (h:EC N ε): ∀j:Int,lookL n ε.1.bQ=some j→∃f',ε.1.ai[j.toNat]?=some f':=fun j I=>by
 obtain⟨_,k,f,rfl,J,_⟩:=h.mA n j I<;>grind
theorem EC.out (h:EC N ε)(I:ε.1.ai[i]?=some f):
  (outF ε i).1=0∧EC N (outF ε i).2∧(∀n,pgA (outF ε i).2 n=pgA ε n)∧(outF ε i).2.1.bQ=ε.1.bQ∧∃g,(outF ε i).2.1.ai[i]?=some g∧g.aK=f.aK∧(0≤g.aK→g.changed=false):=by
 have hi:=(List.getElem?_eq_some_iff.1 I).1
 unfold outF
 rw[I]
 simp only
 by_cases hc:f.aK<0∨f.changed=false
 ·grind
 ·rw[ak hc]
  have J:0≤f.aK:=by omega
  have yL:f.changed=true:=by grind
  have ho:=(h.back i f I).resolve_left (by omega)
  have hg:=ho.nq yL
  rw[ak (by grind)]
  obtain⟨e1,k1⟩:=GU (x:=ε.2) (n:=dF f.b 4 8) h.dk
  rw[ak (by omega)]
  obtain⟨e2,k2,k3⟩:=TW (h.dk.of k1) J ho.lt (fb hg) ho.aH
  rw[ak (by omega)]
  have Av:∀m,f.aK≠m→((bx ε.2 (dF f.b 4 8)).2.2.bL f.aK f.b).2.at m=ε.2.2.at m:=fun m hm=>by rw[k3,ak hm,k1.at]
  refine⟨rfl,h.set I rfl k2 (.inr ⟨ho.lt,ho.here,ho.aH,fun _ => ?_,fun hq=>(by cases hq)⟩) (fun j x si hx h0=>Av _ fun Js => ?_) (fun k hk => ?_) (iN h.GW),fun n => ?_,rfl,_,j4 hi,rfl,fun _=>rfl⟩
  ·grind
  ·rcases h.back j x hx with h1|h1
   ·omega
   ·have:=h1.here
    rw[←Js,ho.here] at this
    grind
  ·rcases pn.1 hk with rfl|hk
   ·exact⟨J,ho.lt⟩
   ·exact h.AB k hk
  ·exact MA I (by rfl) (fun hn=>Av n fun e=>by rw[←e,ho.here] at hn;cases hn) h.there
theorem gv.back (I:gv π cn){x:Fm}(J:cn.ai[i]?=some x): ∃f t,π.ai[i]?=some f∧x={ f with fX:=t }:=by
 have hi:=(List.getElem?_eq_some_iff.1 J).1
 rw[I.len] at hi
 have hf:π.ai[i]?=some (π.ai[i]'hi):=bw _
 obtain⟨t,ht⟩:=I.get i _ hf<;>grind
theorem EC.sS (h:EC N ε)(I:gv ε.1 cn): EC N (cn,ε.2)∧∀n,pgA (cn,ε.2) n=pgA ε n:=by
 refine⟨⟨h.dk,by rw[I.bQ];exact h.nodup,fun n i hi => ?_,fun i x hx => ?_,by rw[I.bO];exact h.AB,by rw[I.bO];exact h.GW⟩,fun n => ?_⟩
 ·rw[I.bQ] at hi
  obtain⟨h0,j,f,rfl,hf,hp⟩:=h.mA n i hi
  obtain⟨t,ht⟩:=I.get j f hf
  exact⟨h0,j,_,rfl,ht,hp⟩
 ·obtain⟨f,t,hf,rfl⟩:=I.back hx
  rcases h.back i f hf with J|J
  ·grind
  ·exact .inr ⟨J.lt,by rw[I.bQ];exact J.here,J.aH,J.same,J.nq⟩
 ·unfold pgA
  simp only[I.bQ]
  cases hl:lookL n ε.1.bQ with
  |none=>rfl
  |some i =>
   obtain⟨h0,j,f,rfl,hf,hp⟩:=h.mA n i hl
   obtain⟨t,ht⟩:=I.get j f hf<;>grind
theorem EC.dP {g:Fm}(h:EC N ε)(hg:ε.1.ai[i]?=some g)(hp:g.aK=f.aK)(hc:0≤g.aK→g.changed=false): EC N (dP ε.1 i f,ε.2)∧(∀n,pgA (dP ε.1 i f,ε.2) n=pgA ε n) ∧
  (dP ε.1 i f).ai[i]?=some fh∧∀n,lookL n ε.1.bQ=none→lookL n (dP ε.1 i f).bQ=none:=by
 have hi:=(List.getElem?_eq_some_iff.1 hg).1
 have J:(ε.1.ai.set i fh)[i]?=some fh:=j4 hi
 have QN:∀n,lookL n (Am.dP ε.1 i f).bQ=if 0≤f.aK∧f.aK=n then none else lookL n ε.1.bQ:=fun n=>by
  rw[Am.dP]
  by_cases I:f.aK<0
  ·grind
  ·rw[ak I,GC h.nodup]
   simp_all
 refine⟨⟨h.dk,?_,fun n k hk => ?_,fun j x hx => ?_,h.AB,h.GW⟩,fun n => ?_,J,fun n hn => ?_⟩
 ·rw[Am.dP]
  by_cases I:f.aK<0
  ·rw[aC I];exact h.nodup
  ·rw[ak I];exact xT h.nodup
 ·rw[QN] at hk
  split at hk
  ·cases hk
  ·obtain⟨I,j,x,rfl,hx,GX⟩:=h.mA n k hk
   refine⟨I,j,x,rfl,?_,GX⟩
   show(ε.1.ai.set i fh)[j]?=some x
   grind
 ·rcases ql hg hx with⟨rfl,rfl⟩|⟨si,hx⟩
  ·exact .inl (by decide)
  ·rcases h.back j x hx with h1|h1
   ·omega
   ·by_cases Z9:x.aK<0
    ·omega
    refine .inr ⟨h1.lt,?_,h1.aH,h1.same,h1.nq⟩
    rw[QN,ak]
    ·exact h1.here
    ·rintro⟨I,Js⟩
     rcases h.back i g hg with h2|h2
     ·omega
     ·have e:=h2.here
      rw[hp,Js,h1.here] at e
      grind
 ·rcases h.cases n with⟨j,x,hl,hx,GX,I,ho,e⟩|⟨hl,e⟩
  ·rw[e]
   by_cases Js:f.aK=n
   ·have si:i=j:=by
     rcases h.back i g hg with h2|h2
     ·omega
     ·have e:=h2.here
      grind
    subst si
    rw[hg] at hx
    have:=cg hx
    subst this
    rw[nM (by grind)]
    rw[ho.same (hc (by omega)),hp,Js]
   ·refine pE (j:=j) (by grind) ?_
    show(ε.1.ai.set i fh)[j]?=some x
    grind
  grind[nM]
 ·grind
theorem EC.jy {e:Fm}(h:EC N ε)(he:ε.1.ai[i]?=some e)(hp:e.aK<0)(hl:lookL n ε.1.bQ=none)(h0:0≤n)(h1:n<N): EC N (jy ε.1 i n (ε.2.2.at n),ε.2)∧∀m,pgA (jy ε.1 i n (ε.2.2.at n),ε.2) m=pgA ε m:=by
 have hi:=(List.getElem?_eq_some_iff.1 he).1
 have I:(ε.1.ai.set i ⟨n,ε.2.2.at n,1,true,false⟩)[i]?=some ⟨n,ε.2.2.at n,1,true,false⟩:=j4 hi
 have QN:∀m,lookL m (Am.jy ε.1 i n (ε.2.2.at n)).bQ=if n=m then some (i:Int) else lookL m ε.1.bQ:=fun m=>fH _
 refine⟨⟨h.dk,iN h.nodup,fun m k hk => ?_,fun j x hx => ?_,h.AB,h.GW⟩,fun m => ?_⟩
 ·rw[QN] at hk
  split at hk
  ·rename_i J
   have:=cg hk
   subst this
   subst J
   exact⟨h0,i,_,rfl,I,rfl⟩
  ·obtain⟨h0,j,x,rfl,hx,GX⟩:=h.mA m k hk
   refine⟨h0,j,x,rfl,?_,GX⟩
   show(ε.1.ai.set i _)[j]?=some x
   grind
 ·rcases ql he hx with⟨rfl,rfl⟩|⟨si,hx⟩
  ·exact .inr ⟨h1,by grind,h.dk.good n h0 h1,fun _=>rfl,fun hq=>(by cases hq)⟩
  ·rcases h.back j x hx with h2|h2
   ·omega
   ·refine .inr ⟨h2.lt,?_,h2.aH,h2.same,h2.nq⟩
    rw[QN,ak]
    ·exact h2.here
    ·rintro rfl
     rw[h2.here] at hl;cases hl
 ·by_cases J:n=m
  ·subst J
   rw[pE (j:=i) (by grind) I,nM hl]
  ·rcases h.cases m with⟨j,x,gE,hx,GX,_,ho,e2⟩|⟨gE,e2⟩
   ·rw[e2]
    refine pE (j:=j) (by grind) ?_
    show(ε.1.ai.set i _)[j]?=some x
    grind
   grind[nM]
theorem EC.frame {g:Fm}(h:EC N ε)(hf:ε.1.ai[i]?=some f)(J:g.aK=f.aK)(hb:g.b=f.b)(hc:g.changed=f.changed): EC N ({ ε.1 with ai:=ε.1.ai.set i g },ε.2)∧∀n,pgA ({ ε.1 with ai:=ε.1.ai.set i g },ε.2) n=pgA ε n:=by
 refine⟨h.set (y:=ε.2.1) (δ:=ε.2.2) hf J h.dk ?_ (fun _ _ _ _ _=>rfl) h.AB h.GW,fun n=>MA hf hb (fun _=>rfl) h.there⟩
 rcases h.back i f hf with I|I
 ·omega
 ·exact .inr ⟨by rw[J];exact I.lt,by rw[J];exact I.here,by rw[hb];exact I.aH,by rw[J,hb,hc];exact I.same,by rw[hb,hc];exact I.nq⟩
theorem gx.ec (hr:gx ε n e b aj)(h:EC N ε): EC N aj∧(∀m,pgA aj m=pgA ε m)∧(0≤n→n<N→e=0∧b=pgA ε n)∧(¬(0≤n∧n<N)→e=1∧aj=ε):=by
 have gP:=h.dk.aq
 cases hr with
 |arg I=>grind
 |D3 i f h1 J hl hf =>
  obtain⟨k1,k2⟩:=h.frame (g:={ f with fX:=true,pins:=f.pins+1 }) hf rfl rfl rfl<;>grind[pE]
 |out cn i f h1 J hl I hf hh he=>exact absurd ((h.sS I).1.out hf).1 he
 |read cn i f h1 J hl I hf hh he hr =>
  obtain⟨k1,k2,k3,k4,g,k5,k6,k7⟩:=(h.sS I).1.out hf
  refine absurd ?_ hr
  rw[gP] at J
  rw[Dk.rY,ak (by rw[k2.dk.alive];decide),ak (by rw[k2.dk.aq];exact not_not_intro ⟨h1,J⟩)]
 |bad cn i f h1 J hl I hf hh he hr hc =>
  obtain⟨k1,k2,k3,k4,g,k5,k6,k7⟩:=(h.sS I).1.out hf
  rw[gP] at J
  exact absurd (k2.dk.good n h1 J) hc
 |load cn i f h1 J hl I hf hh he hr hc =>
  obtain⟨n1,n2⟩:=h.sS I
  obtain⟨k1,k2,k3,k4,g,k5,k6,k7⟩:=n1.out hf
  rw[gP] at J
  obtain⟨f1,f2,f3,f4⟩:=k2.dP k5 k6 k7
  have gE:lookL n (outF (cn,ε.2) i).2.1.bQ=none:=by rw[k4];rw[I.bQ];exact hl
  obtain⟨l1,l2⟩:=f1.jy f3 (by decide) (f4 n gE) h1 J
  exact⟨l1,fun m=>by grind,fun _ _=>⟨rfl,by grind[nM]⟩,fun I=>absurd ⟨h1,J⟩ I⟩
theorem QO {x:LD}(h:EC N (π,x)): EC N ((unpinF π n).2,x)∧∀m,pgA ((unpinF π n).2,x) m=pgA (π,x) m:=by
 unfold unpinF
 split
 ·grind
 ·split
  ·grind
  ·rename_i i hi f I
   exact h.frame (g:={ f with pins:=f.pins-1 }) I rfl rfl rfl
theorem nr.ec (I:nr ε n e b aj)(h:EC N ε)(J:∀f∈ε.1.ai,f.pins=0): EC N aj∧(∀m,pgA aj m=pgA ε m)∧(0≤n→n<N→e=0∧b=pgA ε n)∧(¬(0≤n∧n<N)→e=1∧aj=ε):=by
 cases I with
 |dead hd=>rw[h.dk.alive] at hd;cases hd
 |jF e b aj hd I he =>
  obtain⟨k1,k2,k3,k4⟩:=I.ec h<;>grind
 |yb b aj hd I he=>exact absurd (I.CU J).1 he
 |read b aj hd I he =>
  obtain⟨k1,k2,k3,k4⟩:=I.ec h<;>grind[QO]
theorem GRd.ec (I:GRd ε now false n e b aj)(h:EC N ε)(J:∀f∈ε.1.ai,f.pins=0): EC N aj∧(∀m,pgA aj m=pgA ε m) ∧
  (0≤n→n<N→e=0∧b=(match lookL n now with|some b=>b|none=>pgA ε n))∧(¬(0≤n∧n<N)→e=1):=by
 have gP:=h.dk.aq
 cases I with
 |arg hn=>grind
 |cA _ _ ho=>cases ho
 |own b h1 h2 _ hl=>grind
 |read e b aj h1 h2 _ hl I =>
  obtain⟨k1,k2,k3,k4⟩:=I.ec h J<;>grind
theorem AD : ∀(N:Nat) (l:List Int),l.Nodup→(∀n∈l,0≤n∧n<N)→l.length≤N:=by
 intro N
 induction N with
 |zero =>
  intro l _ h
  cases l<;>grind[List.mem_cons_self]
 |succ N I =>
  intro l hd h
  have J:=I (l.erase (N:Int)) (hd.erase _) fun n hn=>by
   grind
  grind
structure NW (N:Nat)(now:List (Int×List Nat)): Prop where
 good:∀e∈now,cf e.2=true∧∀x∈e.2,x<256
 keys:∀k:Int,k∈now.map (·.1)→0≤k∧k<N
 nodup:(now.map (·.1)).Nodup
theorem NW.nil (N:Nat): NW N []:=⟨fun e h=>(by cases h),fun k h=>(by cases h),lZ⟩
theorem Ef {a:α}: ∀ {l:List (Int×α)} {e:Int×α},e∈b8 n a l→e=(n,a)∨e∈l:=by
 intro l
 induction l<;>grind[b8]
theorem NW.put (h:NW N now)(J:0≤n)(h1:n<N)(hg:cf b=true)(hb:∀x∈b,x<256): NW N (b8 n b now):=by
 refine⟨fun e he => ?_,fun k I => ?_,iN h.nodup⟩
 ·rcases Ef he with rfl|he
  ·grind
  ·exact h.good e he
 ·rcases pn.1 I with rfl|I
  ·omega
  ·exact h.keys k I
theorem NW.len (h:NW N now): now.length≤N:=by
 have:=AD N _ h.nodup h.keys
 rwa [gD] at this
theorem NW.look (h:NW N now)(I:lookL n now=some b): cf b=true∧∀x∈b,x<256:=h.good _ (hG I)
theorem uS.ec (I:uS ε now false n b e dM aj)(h:EC N ε)(J:∀f∈ε.1.ai,f.pins=0): EC N aj∧(∀m,pgA aj m=pgA ε m) ∧
  (¬(0≤n∧n<N)→e=1∧dM=now)∧(0≤n→n<N→cf b=false→e=4∧dM=now)∧(0≤n→n<N→cf b=true→e=0∧dM=b8 n b now):=by
 cases I with
 |may e c aj I he =>
  obtain⟨k1,k2,k3,k4⟩:=I.ec h J<;>grind
 |bad c aj I hg =>
  obtain⟨k1,k2,k3,k4⟩:=I.ec h J<;>grind
 |done c aj I hg =>
  obtain⟨k1,k2,k3,k4⟩:=I.ec h J<;>grind
theorem iw.ec {l:List Int}{cs:List bZ}(I:iw now l ε e cs aj): EC N ε→iL ε→(∀n∈l,0≤n∧n<N)→EC N aj∧(∀m,pgA aj m=pgA ε m)∧e=0:=by
 induction I with
 |nil ε=>grind
 |err n l ε e b aj I he =>
  intro h J hl
  obtain⟨k1,k2,k3,k4⟩:=I.ec h J.pins<;>grind
 |part n l ε er b aj c e cs k_ I hb hd hc jO ht ih =>
  intro h J hl
  obtain⟨k1,k2,k3,k4⟩:=I.ec h J.pins
  obtain⟨i1,i2,i3⟩:=ih k1 (I.lS J) fun m hm=>hl m (bW _ hm)<;>grind
 |whole n l ε er b aj e cs k_ I hb hd ht ih =>
  intro h J hl
  obtain⟨k1,k2,k3,k4⟩:=I.ec h J.pins
  obtain⟨i1,i2,i3⟩:=ih k1 (I.lS J) fun m hm=>hl m (bW _ hm)<;>grind
theorem EC.log {x:LD}(h:EC N ε)(k:DK ε.2.2 x.2): EC N (ε.1,x)∧∀m,pgA (ε.1,x) m=pgA ε m:=by
 refine⟨⟨h.dk.of k,h.nodup,h.mA,fun i f J => ?_,h.AB,h.GW⟩,fun m => ?_⟩
 ·rcases h.back i f J with I|I
  ·omega
  ·exact .inr ⟨I.lt,I.here,I.aH,fun hc=>by rw[k.at];exact I.same hc,I.nq⟩
 ·unfold pgA
  simp only[k.at]
theorem EC.put (h:EC N ε)(hl:lookL n ε.1.bQ=some (i:Int))(I:ε.1.ai[i]?=some f)(hg:cf b=true)(hb:∀x∈b,x<256)(h0:0≤n)(h1:n<N):
  EC N (uV ε.1 n i f b aF,ε.2)∧∀m,pgA (uV ε.1 n i f b aF,ε.2) m=if m=n then cz b aF else pgA ε m:=by
 obtain⟨s1,s2,s3⟩:=GV (n:=aF) hg hb
 have hi:=(List.getElem?_eq_some_iff.1 I).1
 have hp:f.aK=n:=by
  obtain⟨_,j,x,si,hx,J⟩:=h.mA n i hl<;>grind
 have ho:=(h.back i f I).resolve_left (by omega)
 refine⟨h.set (y:=ε.2.1) (δ:=ε.2.2) I rfl h.dk (.inr ⟨ho.lt,ho.here,s1,fun hq=>(by cases hq),fun _=>s2⟩) (fun _ _ _ _ _=>rfl) (fun k hk => ?_) (iN h.GW),fun m => ?_⟩
 ·rcases pn.1 hk with rfl|hk
  ·omega
  ·exact h.AB k hk
 ·by_cases hm:m=n
  ·subst hm
   rw[aC rfl]
   exact pE (ε:=(uV ε.1 m i f b aF,ε.2)) hl (j4 hi)
  ·rcases h.cases m with⟨j,x,gE,hx,J,_,_,e2⟩|⟨gE,e2⟩<;>grind[pE,uV,nM]
theorem PtR.ec {l:List Int}(I:PtR now aF l ε e aj): EC N ε→iL ε→NW N now→(∀n∈l,0≤n∧n<N)→EC N aj∧e=0 ∧
  ∀m,pgA aj m=if m∈l then(match lookL m now with|some b=>cz b aF|none=>pgA ε m) else pgA ε m:=by
 induction I with
 |nil ε=>grind
 |jF n l ε e b aj I he =>
  intro h J hn hl
  have:=hl n bX
  exact absurd ((I.ec h).2.2.1 this.1 this.2).1 he
 |bad n l ε b0 b aj I hb he =>
  intro h J hn hl
  exact absurd ((I.put (b:=b) (aF:=aF) J).2.2 (hn.look hb).1) he
 |put n l ε b0 b aj e k_ I hb he ht ih =>
  intro h J hn hl
  have oQ:=hl n bX
  obtain⟨k1,k2,k3,k4⟩:=I.ec h
  obtain⟨i,f,p1,p2,p3,p4,p5⟩:=I.at J.pins
  have hg:=hn.look hb
  have e1:=tE (aF:=aF) p1 p2 p3 hg.1
  obtain⟨q1,q2⟩:=k1.put (aF:=aF) p1 p2 hg.1 hg.2 oQ.1 oQ.2
  have GY:=(I.put (b:=b) (aF:=aF) J).1
  rw[e1] at ih GY
  obtain⟨i1,i2,i3⟩:=ih q1 GY hn fun m hm=>hl m (bW _ hm)
  refine⟨i1,i2,fun m => ?_⟩
  rw[i3,q2]
  by_cases hm:m=n
  ·grind
  ·grind
structure EL (K:Nat)(x:LD): Prop where
 log:x.1.b=x.2.log
 cert:x.1.forced≤x.2.bu
 size:x.1.base+x.1.b.length≤K
theorem EL.force {x:LD}{n:Nat}(h:EL K x): EL K (bx x n).2:=by
 unfold bx Dk.cF
 split
 ·exact h
 ·by_cases hd:x.2.dead=true
  ·grind
  ·rw[ak hd]
   by_cases I:x.2.aU=0
   ·rw[aC I,aC (show(9:Int)≠0 by decide)];exact⟨h.log,h.cert,h.size⟩
   ·rw[ak I,ak (show ¬(0:Int)≠0 by decide)];exact⟨h.log,by rw[h.log];exact aV _,h.size⟩
theorem EL.write {x:LD}(h:EL K x): EL K (x.1,(x.2.bL n b).2):=by
 unfold Dk.bL
 split
 ·exact h
 ·split
  ·exact h
  ·split<;>exact⟨h.log,h.cert,h.size⟩
theorem xk (K:Nat): lM (EL K):=⟨fun _ _ h=>h.force,fun _ _ _ h=>h.write⟩
theorem nr.el (I:nr ε n e b aj)(h:EL K ε.2): EL K aj.2:=(xk K).rd I h
theorem GRd.el {cA:Bool}(I:GRd ε now cA n e b aj)(h:EL K ε.2): EL K aj.2:=(xk K).Az I h
theorem uS.el {cA:Bool}(I:uS ε now cA n b e dM aj)(h:EL K ε.2): EL K aj.2:=(xk K).QL I h
theorem iw.el {l:List Int}{cs:List bZ}(I:iw now l ε e cs aj)(h:EL K ε.2): EL K aj.2:=(xk K).ch I h
theorem PtR.el {l:List Int}(I:PtR now aF l ε e aj)(h:EL K ε.2): EL K aj.2:=(xk K).pt I h
structure EI (N B:Nat)(ε:bA): Prop where
 ok:iL ε
 ec:EC N ε
 el:EL (B*1048600) ε.2
 b6:b6 ε≤B*65536
theorem EI.more (h:EI N B ε){I:Nat}(J:B≤I): EI N I ε :=
 ⟨h.ok,h.ec,⟨h.el.log,h.el.cert,cM h.el.size (qV _ J)⟩,cM h.b6 (qV _ J)⟩
theorem EI.rd (h:EI N B ε)(I:nr ε n e b aj): EI N B aj :=
 ⟨I.lS h.ok,(I.ec h.ec h.ok.pins).1,I.el h.el,cM I.b6 h.b6⟩
theorem EI.Az (h:EI N B ε)(I:GRd ε now false n e b aj): EI N B aj :=
 ⟨I.lS h.ok,(I.ec h.ec h.ok.pins).1,I.el h.el,cM I.b6 h.b6⟩
theorem EI.QL (h:EI N B ε)(I:uS ε now false n b e dM aj): EI N B aj :=
 ⟨I.lS h.ok,(I.ec h.ec h.ok.pins).1,I.el h.el,cM I.b6 h.b6⟩
theorem EI.many (h:EI N B ε): N≤65536:=by
 have:=h.ok.ok.dk.many
 rwa [h.ec.dk.aq] at this
theorem EI.force {n:Nat}(h:EI N B ε): (bx ε.2 n).1=0∧EI N B (ε.1,(bx ε.2 n).2)∧∀m,pgA (ε.1,(bx ε.2 n).2) m=pgA ε m:=by
 obtain⟨f1,f2⟩:=GU (n:=n) h.ec.dk
 obtain⟨l1,l2⟩:=h.ec.log f2
 refine⟨f1,⟨⟨⟨h.ok.ok.pl,Cj h.ok.ok.lg,qC h.ok.ok.dk⟩,h.ok.pins,h.ok.full⟩,l1,h.el.force,?_⟩,l2⟩
 have:=h.b6
 grind[Am.b6,uN]
theorem EI.app {kd:Int}{c:List bZ}(h:EI N B ε)(hB:B≤4000)(hg:dV kd c=true):
  EI N (B+1) (ε.1,(bp ε.2 kd tx pv nx data c).2)∧(∀m,pgA (ε.1,(bp ε.2 kd tx pv nx data c).2) m=pgA ε m) ∧
  (((bp ε.2 kd tx pv nx data c).1.2=0∧bp ε.2 kd tx pv nx data c=((ε.2.1.base+ε.2.1.b.length,0),(ε.2.1.app (fO ε.2.1 kd tx pv nx data c),{ ε.2.2 with log:=ε.2.2.log++fO ε.2.1 kd tx pv nx data c }))) ∨
   (bp ε.2 kd tx pv nx data c).1.2=7∨((bp ε.2 kd tx pv nx data c).1.2=2∧1048576<(c_ kd tx pv nx data c).length)):=by
 have hs:=h.el.size
 have J:=Co (kd:=kd) (tx:=tx) (pv:=pv) (nx:=nx) (data:=data) (c:=c) h.ok.ok.lg h.ok.ok.dk h.el.log (by omega)
 have uW:Am.b6 (ε.1,(bp ε.2 kd tx pv nx data c).2)≤(B+1)*65536:=by
  have e:Am.b6 (ε.1,(bp ε.2 kd tx pv nx data c).2)=Am.b6 ε:=by grind[Am.b6]
  rw[e]
  exact cM h.b6 (qV _ (tP B))
 have eL:(bp ε.2 kd tx pv nx data c).2.1.base+(bp ε.2 kd tx pv nx data c).2.1.b.length≤(B+1)*1048600:=by
  omega
 have main:∀(hk:DK ε.2.2 (bp ε.2 kd tx pv nx data c).2.2) (hc:(bp ε.2 kd tx pv nx data c).2.1.forced≤(bp ε.2 kd tx pv nx data c).2.2.bu),EI N (B+1) (ε.1,(bp ε.2 kd tx pv nx data c).2)∧∀m,pgA (ε.1,(bp ε.2 kd tx pv nx data c).2) m=pgA ε m:=fun hk hc=>by
  obtain⟨l1,l2⟩:=h.ec.log hk
  exact⟨⟨⟨⟨h.ok.ok.pl,J.1,J.2.1⟩,h.ok.pins,h.ok.full⟩,l1,⟨J.2.2.1,hc,eL⟩,uW⟩,l2⟩
 rcases jk ε.2 kd tx pv nx data c with⟨e,he,hc,I⟩|⟨hd,hf,I⟩|⟨_,_,hd,fG,hf,I⟩
 ·obtain⟨m1,m2⟩:=main (by rw[I];exact DK.refl _) (by rw[I];exact h.el.cert)
  refine⟨m1,m2,.inr ?_⟩
  rw[I]
  rcases hc with⟨_,hb⟩|⟨rfl,hb⟩|⟨_,hb⟩|⟨rfl,hb⟩
  ·grind
  ·grind
  ·rw[h.ec.dk.alive] at hb;cases hb
  ·simp
 ·have:=h.ec.dk.aU;omega
 ·rw[jQ h.ec.dk.aU] at I
  obtain⟨m1,m2⟩:=main (by rw[I];exact⟨rfl,rfl,rfl,rfl⟩) (by rw[I];exact h.el.cert)
  exact⟨m1,m2,.inl ⟨by rw[I],I⟩⟩
theorem EI.done {kd:Int}{cl:Bool}(h:EI N B ε)(hB:B≤4000)(hn:NW N now)(h1:1≤kd)(h2:kd≤7)(hr:DnR ε now kd tx pv nx data 0 aF e cl aj):
  (cl=false∧(e=7∨e=2)∧EI N (B+2) aj∧∀m,pgA aj m=pgA ε m) ∨
  (cl=true∧e=0∧EI N (B+2) aj∧∀m,pgA aj m=match lookL m now with|some b=>cz b aF|none=>pgA ε m):=by
 have I:∀n∈bP now,0≤n∧n<N:=fun n hq=>hn.keys n (h_.1 hq)
 have hN:=h.many
 have fG:∀ {c:List bZ} {aj:bA} {e:Int},iw now (bP now) ε e c aj→dV kd c=true:=fun J=>by
  refine yj ⟨h1,by omega⟩ (J.fit (fun x hx=>fb (hn.good x hx).1) fun n hq => ?_)<;>grind
 cases hr with
 |arg hq=>omega
 |dead _ _ _ hd=>rw[h.ec.dk.alive] at hd;cases hd
 |nq e c aj _ _ _ hd J he=>exact absurd (J.ec h.ec h.ok I).2.2 he
 |app c aj _ _ _ hd J he =>
  obtain⟨c1,c2,c3⟩:=J.ec h.ec h.ok I
  have hi:EI N B aj:=⟨J.lS h.ok,c1,J.el h.el,cM J.b6 h.b6⟩
  obtain⟨a1,a2,a3⟩:=hi.app (kd:=kd) (tx:=tx) (pv:=pv) (nx:=nx) (data:=data) (c:=c) hB (fG J)
  refine .inl ⟨rfl,?_,a1.more (by omega),fun m=>by grind⟩<;>grind
 |put c aj e k_ _ _ _ hd J ha hp =>
  obtain⟨c1,c2,c3⟩:=J.ec h.ec h.ok I
  have hi:EI N B aj:=⟨J.lS h.ok,c1,J.el h.el,cM J.b6 h.b6⟩
  obtain⟨a1,a2,a3⟩:=hi.app (kd:=kd) (tx:=tx) (pv:=pv) (nx:=nx) (data:=data) (c:=c) hB (fG J)
  obtain⟨p1,p2,p3⟩:=hp.ec a1.ec a1.ok hn I
  have hl:(bP now).length≤N:=by
   have:=hn.len
   rw[bP,(eR _).length_eq,gD];exact this
  have Vu:=hp.b6 a1.ok
  have uw:=a1.b6
  refine .inr ⟨rfl,p2,⟨hp.lS a1.ok,p1,?_,by omega⟩,fun m => ?_⟩
  ·have:=hp.el a1.el
   exact⟨this.log,this.cert,cM this.size (qV _ (by omega))⟩
  ·grind[h_,jV]
theorem Cq (n:Nat): (digits 9 n).length≤10:=vz 9 n
def mG (π:Pl)(n:Int)(b:List Nat): Prop:=∃(i:Nat) (f:Fm),π.ai[i]?=some f∧f.aK=n∧0≤n∧f.changed=true∧f.b=b
abbrev VP := (Int→List Nat→Prop)→List (Int×(Nat×Bool))→LD→Prop
abbrev vw (P:VP)(ε:bA): Prop:=P (mG ε.1) ε.1.bO ε.2
theorem TY (hn:gv π cn): mG cn=mG π:=by
 funext n b
 refine propext ⟨fun⟨i,x,hx,I,J,h2,h3⟩ => ?_,fun⟨i,f,hf,I,J,h2,h3⟩ => ?_⟩
 ·obtain⟨f,t,hf,rfl⟩:=hn.back hx
  exact⟨i,f,hf,I,J,h2,h3⟩
 ·obtain⟨t,ht⟩:=hn.get i f hf
  exact⟨i,_,ht,I,J,h2,h3⟩
theorem BL {g:Fm}(J:π.ai[i]?=some f)(hs:∀n b,(f.aK=n∧0≤n∧f.changed=true∧f.b=b)↔(g.aK=n∧0≤n∧g.changed=true∧g.b=b)){w:List (Int×Int)}{hd:Nat}: mG ⟨π.ai.set i g,w,d,hd⟩=mG π:=by
 have hi:=(List.getElem?_eq_some_iff.1 J).1
 funext n b
 refine propext ⟨fun⟨j,x,I,h⟩ => ?_,fun⟨j,x,I,h⟩ => ?_⟩
 ·rcases ql J I with⟨rfl,rfl⟩|⟨_,I⟩
  ·exact⟨i,f,J,(hs n b).2 h⟩
  ·exact⟨j,x,I,h⟩
 ·by_cases hj:i=j
  ·subst hj
   rw[J] at I
   have:=cg I
   subst this
   exact⟨i,g,j4 hi,(hs n b).1 h⟩
  ·exact⟨j,x,by grind,h⟩
theorem QS {g:Fm}(J:π.ai[i]?=some g)(hc:0≤g.aK→g.changed=false): mG (dP π i f)=mG π :=
 BL J fun n b=>⟨(fun⟨h1,h0,I,_⟩=>by grind),fun⟨_,_,I,_⟩=>(by cases I)⟩
theorem Og {e:Fm}(he:π.ai[i]?=some e)(J:e.aK<0): mG (jy π i n b)=mG π :=
 BL he fun m c=>⟨fun⟨h1,h0,_⟩=>by omega,fun⟨_,_,I,_⟩=>(by cases I)⟩
structure nN (N:Nat)(P:VP): Prop where
 one:∀(ε:bA) (i:Nat) (f:Fm),EC N ε→ε.1.ai[i]?=some f→0≤f.aK→f.changed=true→vw P ε→vw P (outF ε i).2
theorem lM.rO {R:LD→Prop}(h:lM R)(N:Nat): nN N (fun _ _ x=>R x):=⟨fun _ _ _ _ _ _ _ I=>h.out I⟩
section
variable {P:VP} {l:List Int} {cs:List bZ}
theorem nN.out (h:nN N P)(he:EC N ε)(I:ε.1.ai[i]?=some f)(J:vw P ε): vw P (outF ε i).2:=by
 by_cases hc:f.aK<0∨f.changed=false
 ·grind[outF]
 ·exact h.one ε i f he I (by omega) (by grind) J
theorem nN.jF (h:nN N P)(hr:gx ε n e b aj)(he:EC N ε)(hv:vw P ε): vw P aj:=by
 cases hr with
 |arg I=>exact hv
 |D3 i f h1 J hl hf =>
  grind[BL]
 |out cn i f h1 J hl I hf hh hq=>exact absurd ((he.sS I).1.out hf).1 hq
 |read cn i f h1 J hl I hf hh hq hr =>
  obtain⟨k1,k2,k3,k4,g,k5,k6,k7⟩:=(he.sS I).1.out hf
  refine absurd ?_ hr
  rw[he.dk.aq] at J
  rw[Dk.rY,ak (by rw[k2.dk.alive];decide),ak (by rw[k2.dk.aq];exact not_not_intro ⟨h1,J⟩)]
 |bad cn i f h1 J hl I hf hh hq hr hc =>
  obtain⟨k1,k2,k3,k4,g,k5,k6,k7⟩:=(he.sS I).1.out hf
  rw[he.dk.aq] at J
  exact absurd (k2.dk.good n h1 J) hc
 |load cn i f h1 J hl I hf hh hq hr hc =>
  obtain⟨n1,n2⟩:=he.sS I
  have uK:vw P (cn,ε.2):=by show P (mG cn) cn.bO ε.2;rw[TY I,I.bO];exact hv
  have qy:=h.out (ε:=(cn,ε.2)) n1 hf uK
  grind[QS,dP,outF,fh,jy,Og]
theorem QT : mG (unpinF π n).2=mG π∧(unpinF π n).2.bO=π.bO:=by
 grind[unpinF,BL]
theorem nN.rd (h:nN N P)(I:nr ε n e b aj)(he:EC N ε)(J:vw P ε): vw P aj:=by
 cases I<;>grind[jF,QT]
theorem nN.Az (h:nN N P)(I:GRd ε now false n e b aj)(he:EC N ε)(J:vw P ε): vw P aj:=by
 cases I with
 |arg hn=>exact J
 |cA _ _ ho=>cases ho
 |own b h1 h2 _ hl=>exact J
 |read e b aj h1 h2 _ hl I=>exact h.rd I he J
theorem nN.QL (h:nN N P)(I:uS ε now false n b e dM aj)(he:EC N ε)(J:vw P ε): vw P aj:=by
 cases I with
 |may e c aj I _=>exact h.Az I he J
 |bad c aj I hg=>exact h.Az I he J
 |done c aj I hg=>exact h.Az I he J
theorem nN.ch (h:nN N P)(I:iw now l ε e cs aj): EC N ε→iL ε→vw P ε→vw P aj:=by
 induction I with
 |nil ε=>simp
 |err n l ε e b aj I _=>exact fun he _ J=>h.rd I he J
 |part n l ε er b aj c e cs k_ I hb hd hc jO ht ih=>exact fun he h3 J=>ih (I.ec he h3.pins).1 (I.lS h3) (h.rd I he J)
 |whole n l ε er b aj e cs k_ I hb hd ht ih=>exact fun he h3 J=>ih (I.ec he h3.pins).1 (I.lS h3) (h.rd I he J)
end
def vP (k:Nat)(v:V)(cs:List V): aI:=.xs fun o:Option (Nat×Nat×Nat)=>match o with
 |none=>.pu ((v=.aY∨∃a,v=.sle a)∧cs=[])
 |some (id,len,cap)=>.an (.ro id (.cells cs.length cs true)) (.pu (v=.sl id 0 len (.exact cap)∧cs.length=len*k))
section
variable {v:V} {cs:List V}
theorem Sat.rowAt (s:Sat h S)(J:getA S j=some (vP k v cs)): ((v=.aY∨∃a,v=.sle a)∧cs=[])∨∃id len cap,v=.sl id 0 len (.exact cap)∧cs.length=len*k∧T.get h.tr id=some (.cells cs.length cs true):=by
 obtain⟨m,r,h1,h2,o,I⟩:=s.at J
 cases o with
 |none=>exact .inl I
 |some x=>exact .inr ⟨x.1,x.2.1,x.2.2,I.2.1,I.2.2,h2 _ _ I.1⟩
theorem Sat.QU {n:Nat}{e:TypeId}(s:Sat h S)(J:getA S j=some (vP k v cs))(I:cs.length=n*k)(hk:1≤k)(hu:P.underlying t=some (.slice e)): lenV P h t v=some (.int .i64 n):=by
 rcases s.rowAt J with⟨hv,rfl⟩|⟨id,len,cap,rfl,hl,_⟩
 ·have:n=0:=by
   cases n with
   |zero=>rfl
   |succ n=>simp only[cG,pN,Bf] at I;omega
  subst this
  rcases hv with rfl|⟨a,rfl⟩
  ·exact LY hu
  ·simp only[lenV,hu];rfl
 ·have:n=len:=by
   rw[hl] at I
   exact(LA (by omega) I).symm
  subst this
  exact IB hu
end
def tot : List (List Nat)→Nat
 |[]=>0
 |c::l=>c.length+tot l
theorem FQ {a b:List (List Nat)}: tot (a++b)=tot a+tot b:=by
 induction a<;>grind[tot]
theorem nO : ∀ {cs:List (List Nat)} {i:Nat} {c:List Nat},cs[i]?=some c→tot (cs.take (i+1))=tot (cs.take i)+c.length:=by
 intro cs
 induction cs<;>grind[tot]
theorem Jt (h:i≤j): tot (cs.take i)≤tot (cs.take j):=by
 grind[List.take_append_drop,FQ]
theorem oV {cs:List (List Nat)}{i:Nat}: tot (cs.take i)≤tot cs:=by
 grind[FQ,List.take_append_drop]
theorem XJ : ∀ {cs:List (List Nat)} {i:Nat} {c c':List Nat},cs[i]?=some c→c'.length=c.length→∀k,tot ((cs.set i c').take k)=tot (cs.take k):=by
 intro cs
 induction cs with
 |nil=>simp
 |cons x cs I =>
  intro i c c' h J k
  cases i with
  |zero =>
   simp at h;subst h
   cases k<;>grind[tot]
  |succ i=>cases k<;>grind[tot]
theorem lp {l m:List Nat}{a i:Nat}(h:a+m.length≤l.length)(hi:i<a∨a+m.length≤i): (a_ l a m)[i]?=l[i]?:=by
 grind[yn]
theorem AE {l m:List Nat}{a i:Nat}(h:a+m.length≤l.length)(hi:i<m.length): (a_ l a m)[a+i]?=m[i]?:=by
 grind[yn]
theorem pF {l m:List Nat}{a z:Nat}(h:∀i,a≤i→i<a+z→l[i]?=m[i]?): dF l a z=dF m a z:=by
 unfold dF
 congr 1
 apply qY
 simp_all[wj]
theorem BM {m:List Nat}{b:Nat}(h:a+m.length≤l.length)(I:b+z≤a∨a+m.length≤b): dF (a_ l a m) b z=dF l b z :=
 by grind[pF,lp]
theorem xm {l:List Nat}{a z n:Nat}(h:a+z≤l.length)(I:n<256^z): dF (a_ l a (le z n)) a z=n:=by
 have e:((a_ l a (le z n)).take (a+z)).drop a=le z n:=by
  apply qY
  simp only[EU,wj]
  grind[AE,cO]
 grind[dF,sG,Nat.mod_eq_of_lt]
theorem qm {l m:List Nat}{i:Nat}(h:l[i]?=m[i]?): l.getD i 0=m.getD i 0:=by grind
structure eD (b:List Nat)(k link extra:Nat)(cs:List (List Nat)): Prop where
 len:b.length=512
 QV:b.getD 13 0=0
 kind:b.getD 12 0=k
 link:dF b 18 4=link
 extra:dF b 22 4=extra
 dh:lI b=cs.length
 low:jj b+tot cs=512
 fits:26+4*cs.length+tot cs≤512
 slot:∀i c,cs[i]?=some c→dS b i+tot (cs.take (i+1))=512∧jq b i=c.length∧∀j,j<c.length→b[dS b i+j]?=c[j]?
theorem TZ : ∀(z k:Nat) (t:List Bool),k+z≤t.length→(∀j,k≤j→j<k+z→t.getD j false=false)→∃t',markL z k t=some t'∧t'.length=t.length∧∀j,(j<k∨k+z≤j)→t'.getD j false=t.getD j false:=by
 intro z
 induction z with
 |zero=>intro k t _ _;exact⟨t,rfl,rfl,fun _ _=>rfl⟩
 |succ z I =>
  intro k t J h2
  have hs:∀j,j≠k→(t.set k true).getD j false=t.getD j false:=fun j hj=>by
   grind
  obtain⟨t',e1,e2,e3⟩:=I (k+1) (t.set k true) (by grind) (fun j a b=>by grind)<;>grind[markL]
section
theorem eD.cells (h:eD b k link extra cs): ∀(n i:Nat) (t:List Bool),i+n=cs.length→t.length=512→(∀j,j+tot (cs.take i)<512→t.getD j false=false)→cellsL b (jj b) n i t=true:=by
 intro n
 induction n with
 |zero=>intro i t _ _ _;rfl
 |succ n J =>
  intro i t hi ht hf
  have I:cs[i]?=some (cs[i]'(by omega)):=bw _
  generalize (cs[i]'(by omega))=c at I
  obtain⟨s1,s2,s3⟩:=h.slot i c I
  have h1:=nO I
  have h2:=oV (cs:=cs) (i:=i+1)
  have h3:=h.low
  obtain⟨t',e1,e2,e3⟩:=TZ c.length (dS b i) t (by omega) (fun j _ _=>hf j (by omega))
  rw[cellsL,s2,ak (by omega),e1]
  exact J (i+1) t' (by omega) (by omega) (fun j hj=>by grind)
theorem eD.good (h:eD b k link extra cs): cf b=true:=by
 have I:=h.low
 have J:=h.fits
 rw[cf,eE h.len,eE h.QV,eE (by rw[h.dh];omega),h.cells _ _ _ (by rw[h.dh];omega) eY fun j hj => ?_]
 ·rfl
 grind
theorem eD.tail (h:eD b k link extra cs){I:List Nat}(hl:I.length=512)(ht:I.drop 12=b.drop 12): eD I k link extra cs:=by
 have hg:∀i,12≤i→I[i]?=b[i]?:=fun i hi=>by
  have:=iW (fun l:List Nat=>l[i-12]?) ht
  grind
 have J:∀a z,12≤a→dF I a z=dF b a z:=fun a z q=>yo ht q
 refine⟨hl,?_,?_,?_,?_,?_,?_,h.fits,fun i c hc => ?_⟩
 ·rw[qm (hg 13 (by decide))];exact h.QV
 ·rw[qm (hg 12 (by decide))];exact h.kind
 ·rw[J _ _ (by decide)];exact h.link
 ·rw[J _ _ (by decide)];exact h.extra
 ·rw[lI,J _ _ (by decide)];exact h.dh
 ·rw[jj,J _ _ (by decide)];exact h.low
 ·obtain⟨s1,s2,s3⟩:=h.slot i c hc
  have e1:dS I i=dS b i:=J _ _ (by omega)
  have e2:jq I i=jq b i:=J _ _ (by omega)
  have fG:=h.fits
  grind[oV]
def nP (k:Nat): List Nat:=a_ ((List.replicate 512 0).set 12 k) 16 (le 2 512)
theorem eD.new : eD (nP k) k 0 0 []:=by
 have hle:∀n,(le 2 n).length=2:=fun n=>cO 2 n
 have I:∀i,i<16∨18≤i→(nP k)[i]?=((List.replicate 512 0).set 12 k)[i]?:=fun i hi=>lp (by grind) (by grind)
 have hz:∀i,i≠12→((List.replicate 512 0).set 12 k)[i]?=(List.replicate 512 0)[i]?:=fun i hi=>qX (by omega)
 have J:∀a z,a+z≤512→(18≤a∨(13≤a∧a+z≤16))→dF (nP k) a z=dF (List.replicate 512 0) a z:=fun a z h1 h2=>pF fun i h3 h4=>by grind
 refine⟨by grind[nP,cI],?_,?_,?_,?_,?_,?_,by decide,fun i c hc=>(by grind)⟩
 ·rfl
 ·rfl
 ·rfl
 ·rfl
 ·rfl
 ·rfl
def vQ (b:List Nat)(x y:Nat): List Nat:=a_ (a_ b 18 (le 4 x)) 22 (le 4 y)
theorem eD.set (h:eD b k link extra cs){x y:Nat}(hx:x<4294967296)(hy:y<4294967296): eD (vQ b x y) k x y cs:=by
 have hlen:=h.len
 have hle:∀n,(le 4 n).length=4:=fun n=>cO 4 n
 have l1:(a_ b 18 (le 4 x)).length=512:=by grind[cI]
 have l2:(vQ b x y).length=512:=by grind[vQ,cI]
 have I:∀i,i<18∨26≤i→(vQ b x y)[i]?=b[i]?:=fun i hi=>by
  grind[vQ,lp]
 have J:∀a z,a+z≤18∨26≤a→dF (vQ b x y) a z=dF b a z:=fun a z h2=>pF fun i h3 h4=>I i (by omega)
 refine⟨l2,?_,?_,?_,?_,?_,?_,h.fits,fun i c hc => ?_⟩
 ·rw[qm (I 13 (by decide))];exact h.QV
 ·rw[qm (I 12 (by decide))];exact h.kind
 ·grind[vQ,BM,xm]
 ·grind[vQ,xm]
 ·rw[lI,J _ _ (by decide)];exact h.dh
 ·rw[jj,J _ _ (by decide)];exact h.low
 ·obtain⟨s1,s2,s3⟩:=h.slot i c hc
  have e1:dS (vQ b x y) i=dS b i:=J _ _ (by omega)
  have e2:jq (vQ b x y) i=jq b i:=J _ _ (by omega)
  have fG:=h.fits
  grind[oV]
def AF (b:List Nat)(i f z:Nat): List Nat:=a_ (a_ b (26+4*i) (le 2 f)) (26+4*i+2) (le 2 z)
section
variable {f:Nat}
theorem MB (I:b.length=512)(hi:30+4*i≤512): (AF b i f z).length=512:=by
 grind[cO,AF,cI]
theorem MC (I:b.length=512)(hi:30+4*i≤512){j:Nat}(J:j<26+4*i∨30+4*i≤j): (AF b i f z)[j]?=b[j]?:=by
 grind[cO,AF,lp,cI]
theorem QW (I:b.length=512)(hi:30+4*i≤512)(J:f<65536)(hz:z<65536): dS (AF b i f z) i=f∧jq (AF b i f z) i=z:=by
 grind[cO,cI,dS,AF,BM,xm,jq]
end
def yp (b:List Nat)(n lo:Nat)(c:List Nat): List Nat:=AF (a_ (a_ (a_ b 14 (le 2 (n+1))) lo c) 16 (le 2 lo)) n lo c.length
theorem eD.ins (h:eD b k link extra cs){c:List Nat}{lo:Nat}(hf:26+4*(cs.length+1)+(tot cs+c.length)≤512)(vB:lo+(tot cs+c.length)=512): eD (yp b cs.length lo c) k link extra (cs++[c]):=by
 have hlen:=h.len
 have hle:∀n,(le 2 n).length=2:=fun n=>cO 2 n
 have l1:(a_ b 14 (le 2 (cs.length+1))).length=512:=by grind[cI]
 have l2:(a_ (a_ b 14 (le 2 (cs.length+1))) lo c).length=512:=by rw[cI (by omega),l1]
 have l3:(a_ (a_ (a_ b 14 (le 2 (cs.length+1))) lo c) 16 (le 2 lo)).length=512:=by grind[cI]
 have l4:(yp b cs.length lo c).length=512:=MB l3 (by omega)
 have o3:∀i,i<16∨18≤i→(a_ (a_ (a_ b 14 (le 2 (cs.length+1))) lo c) 16 (le 2 lo))[i]?=(a_ (a_ b 14 (le 2 (cs.length+1))) lo c)[i]?:=fun i hi=>lp (by grind) (by grind)
 have o4:∀i,i<26+4*cs.length∨30+4*cs.length≤i→(yp b cs.length lo c)[i]?=(a_ (a_ (a_ b 14 (le 2 (cs.length+1))) lo c) 16 (le 2 lo))[i]?:=fun i hi=>MC l3 (by omega) hi
 -- what is neither count, low, the slot nor the cell
 have I:∀i,(i<14∨18≤i)→(i<26+4*cs.length∨30+4*cs.length≤i)→(i<lo∨lo+c.length≤i)→(yp b cs.length lo c)[i]?=b[i]?:=fun i h1 h2 h3=>by
  grind[lp]
 have Av:∀a z,(a+z≤14∨18≤a)→a+z≤26+4*cs.length→dF (yp b cs.length lo c) a z=dF b a z:=fun a z h1 h2=>pF fun i h3 h4=>I i (by omega) (by omega) (by omega)
 have kx:dS (yp b cs.length lo c) cs.length=lo∧jq (yp b cs.length lo c) cs.length=c.length:=QW l3 (by omega) (by omega) (by omega)
 have Z_:tot (cs++[c])=tot cs+c.length:=by rw[FQ];simp[tot]
 refine⟨l4,?_,?_,?_,?_,?_,?_,by grind,fun i x J => ?_⟩
 ·rw[qm (I 13 (by omega) (by omega) (by omega))];exact h.QV
 ·rw[qm (I 12 (by omega) (by omega) (by omega))];exact h.kind
 ·rw[Av _ _ (by omega) (by omega)];exact h.link
 ·rw[Av _ _ (by omega) (by omega)];exact h.extra
 ·have e:dF (yp b cs.length lo c) 14 2=dF (a_ b 14 (le 2 (cs.length+1))) 14 2:=pF fun i h1 h2=>by
   grind[lp]
  grind[lI,xm]
 ·have e:dF (yp b cs.length lo c) 16 2=dF (a_ (a_ (a_ b 14 (le 2 (cs.length+1))) lo c) 16 (le 2 lo)) 16 2:=pF fun i h1 h2=>o4 i (by omega)
  grind[jj,xm]
 ·by_cases hi:i<cs.length
  ·rw[vZ hi] at J
   obtain⟨s1,s2,s3⟩:=h.slot i x J<;>grind[dS,jq,oV]
  ·have jE:i=cs.length:=by
    grind
   subst jE
   rw[vY (aV _),Be] at J
   have J:c=x:=cg J
   subst J
   rw[kx.1,kx.2,gB (by simp),Z_]
   exact⟨vB,rfl,fun j hj=>by grind[AE]⟩
def yq (b:List Nat)(i f:Nat)(c:List Nat): List Nat:=AF (a_ b f c) i f c.length
theorem eD.rep (h:eD b k link extra cs)(hc:cs[i]?=some c)(hl:c'.length=c.length): eD (yq b i (dS b i) c') k link extra (cs.set i c'):=by
 obtain⟨s1,s2,s3⟩:=h.slot i c hc
 have hlen:=h.len
 have hi:=(List.getElem?_eq_some_iff.1 hc).1
 have CQ:=h.low
 have fG:=h.fits
 have Mm:=oV (cs:=cs) (i:=i+1)
 have QX:=nO hc
 have l1:(a_ b (dS b i) c').length=512:=by grind[cI]
 have l2:(yq b i (dS b i) c').length=512:=MB l1 (by omega)
 have o2:∀j,j<26+4*i∨30+4*i≤j→(yq b i (dS b i) c')[j]?=(a_ b (dS b i) c')[j]?:=fun j hj=>MC l1 (by omega) hj
 have I:∀j,(j<26+4*i∨30+4*i≤j)→(j<dS b i∨dS b i+c.length≤j)→(yq b i (dS b i) c')[j]?=b[j]?:=fun j h1 h2=>by grind[lp]
 have J:∀a z,(a+z≤26+4*i∨30+4*i≤a)→a+z≤26+4*cs.length→dF (yq b i (dS b i) c') a z=dF b a z:=fun a z h1 h2=>pF fun j h3 h4=>I j (by omega) (by omega)
 have kx:dS (yq b i (dS b i) c') i=dS b i∧jq (yq b i (dS b i) c') i=c'.length:=QW l1 (by omega) (by omega) (by omega)
 have vg:∀k,tot ((cs.set i c').take k)=tot (cs.take k):=XJ hc hl
 have Z_:tot (cs.set i c')=tot cs:=by
  have:=vg cs.length
  grind[List.length_set]
 refine⟨l2,?_,?_,?_,?_,?_,?_,by grind,fun j x hx => ?_⟩
 ·rw[qm (I 13 (by omega) (by omega))];exact h.QV
 ·rw[qm (I 12 (by omega) (by omega))];exact h.kind
 ·rw[J _ _ (by omega) (by omega)];exact h.link
 ·rw[J _ _ (by omega) (by omega)];exact h.extra
 ·rw[lI,J _ _ (by omega) (by omega),dg];exact h.dh
 ·grind[jj]
 ·rw[vg]
  by_cases yP:i=j
  ·subst yP
   rw[j4 hi] at hx
   have hx:c'=x:=cg hx
   subst hx
   rw[kx.1,kx.2]
   exact⟨s1,rfl,fun q hq=>by rw[o2 _ (by omega),AE (by omega) hq]⟩
  ·rw[qX yP] at hx
   obtain⟨r1,r2,r3⟩:=h.slot j x hx
   have hj:=(List.getElem?_eq_some_iff.1 hx).1
   have e1:dS (yq b i (dS b i) c') j=dS b j:=J _ _ (by omega) (by omega)
   have e2:jq (yq b i (dS b i) c') j=jq b j:=J _ _ (by omega) (by omega)
   have V8:=nO hx
   have htj:=oV (cs:=cs) (i:=j+1)
   rw[e1,e2]
   refine⟨r1,r2,fun q hq => ?_⟩
   rw[I _ (by omega) ?_]
   ·grind
   ·rcases Nat.lt_or_gt_of_ne yP with q1|q1
    ·have:=Jt (cs:=cs) (i:=i+1) (j:=j) (by omega);omega
    ·have:=Jt (cs:=cs) (i:=j+1) (j:=i) (by omega);omega
theorem eD.cell (h:eD b k link extra cs)(I:cs[i]?=some c): (b.drop (dS b i)).take c.length=c:=by
 obtain⟨s1,s2,J⟩:=h.slot i c I
 apply qY
 grind
end
section
variable {v w:V} {m:List Nat}
theorem Ju {n b:Nat}{cap:Cap}(oL:a≤b)(hb:b≤n): ∃off I,slR (.sl id 0 n cap) a b=.sl id off (b-a) I∧off≤n:=by
 cases cap with
 |exact c =>
  simp only[slR]
  by_cases J:c=a
  ·rw[sO J,ah];exact⟨0,_,rfl,ew _⟩
  ·rw[fF J,aX];exact⟨0+a*1,_,rfl,by omega⟩
 |rest e alt=>exact⟨0+a*1,_,rfl,by omega⟩
theorem MD {n:Nat}{cs:List V}(I:T.get h.tr id=some (.cells n cs false))(ho:off≤n)(hl:cs.length=n): wrN h id off []=some (h.put id (some (.cells n cs false))):=by
 simp only[wrN,I,cG]
 rw[aL.2 (by omega),ah]
 congr 3
 cases J:(Nat.beq off 0&&Nat.beq 0 n) with
 |true =>
  simp only[bH,beq_iff] at J
  rw[ah]
  rw[nT (by omega:cs.length=0)]
 |false=>rw[aX,dU,l8,EP]
theorem QY (s:Sat h (aZ v l::X::S))(hX:cN X (cP w m)){b:Nat}(oL:a≤b)(hb:b≤l.length)(hl:1≤l.length):
  ∃h',copyV Tryz.prog h 23 (slR v a b) w=some (.int .i64 (min m.length (b-a):Nat),h')∧Sat h' (aZ v (a_ l a (m.take (b-a)))::X::S):=by
 by_cases h1:a<b∧1≤m.length
 ·exact CI s hX h1.1 hb h1.2
 ·have hm:min m.length (b-a)=0:=by omega
  have ht:m.take (b-a)=[]:=nT (by rw[gR];omega)
  have Jv:a_ l a (m.take (b-a))=l:=by rw[ht,a_];simp
  have hw:=(s.aG (k:=1) rfl hX).2
  have hv:=(s.buf (k:=0) rfl).view
  obtain⟨id,c,cap,rest,rfl,s1,hc,hf⟩:=s.fU hl
  obtain⟨off,Nj,e1,e2⟩:=Ju (id:=id) (cap:=cap) oL hb
  rw[e1,Jv,hm]
  have hg:=s1.row (k:=0) rfl
  have vn:=MD (off:=off) hg (by omega) (by rw[b7,dR];exact hc)
  have J:Sat (h.put id (some (.cells c (ofBytes l++rest) false))) (aZ (.sl id 0 l.length cap) l::X::S):=hf _ _ rfl hv.1 (s1.put (k:=0) rfl)
  rcases hw with⟨rfl|⟨x,rfl⟩,_⟩|⟨nk,I,IF,n2,Gx,P_,rfl,IG,q1,q2,q3,q4⟩
  ·exact⟨h,by simp only[copyV,aJ,eA];rfl,s⟩
  ·exact⟨h,by simp only[copyV,aJ,eA];rfl,s⟩
  ·refine⟨_,?_,J⟩
   have hr:rdN h nk I 0=some []:=by
    simp only[rdN,IG,l8]
    rw[aL.2 (by omega),ah]
    cases hq:(Nat.beq I 0&&Nat.beq 0 n2) with
    |true =>
     simp only[bH,beq_iff] at hq
     rw[ah,nT (by omega:Gx.length=0)]
    |false=>rw[aX,Bc]
   simp only[copyV,aJ,eA]
   rw[show Nat.min m.length (b-a)=0 from hm,qZ,hr]
   simp only
   rw[vn]
theorem QZ (s:Sat h (aZ v l::S)){b:Nat}(ha:a≤l.length)(hb:b≤l.length)(hl:1≤l.length):
  ∃h',copyV Tryz.prog h 23 (slR v a a) (slR v b b)=some (.int .i64 0,h')∧Sat h' (aZ v l::S):=by
 have hv:=(s.buf (k:=0) rfl).view
 obtain⟨id,c,cap,rest,rfl,s1,hc,hf⟩:=s.fU hl
 obtain⟨off,Nj,e1,e2⟩:=Ju (id:=id) (cap:=cap) (aV _) ha
 obtain⟨I,IF,e3,e4⟩:=Ju (id:=id) (cap:=cap) (aV _) hb
 rw[e1,e3]
 have hg:=s1.row (k:=0) rfl
 have hle:(ofBytes l++rest).length=c:=by rw[b7,dR];exact hc
 have J:=MD (off:=off) hg (by omega) hle
 refine⟨_,?_,hf _ _ rfl hv.1 (s1.put (k:=0) rfl)⟩
 have hr:rdN h id I 0=some []:=by
  simp only[rdN,hg,l8]
  rw[aL.2 (by omega),ah]
  cases hq:(Nat.beq I 0&&Nat.beq 0 c) with
  |true =>
   simp only[bH,beq_iff] at hq
   rw[ah,nT (by omega:(ofBytes l++rest).length=0)]
  |false=>rw[aX,Bc]
 simp only[copyV,aJ,eA,Be]
 rw[show Nat.min 0 0=0 from rfl,qZ,hr]
 simp only
 rw[J]
 rfl
end
section
variable {o:Oper} {v:V} {m:List Nat}
theorem OpR.V9 {b:Nat}(hP:C.P=Tryz.prog)(s:Sat h (aZ v l::X::S))(hX:cN X (cP u m))(I:o.op=.call cl)(hc:cl.callee=.builtin .copy)(J:cl.argTypes = #[23,23])(ha:lookArgs E cl.args.toList=some [slR v a b,u])
 (oL:a≤b)(hb:b≤l.length)(hl:1≤l.length): OpR C E h o fun _ h₁=>Sat h₁ (aZ v (a_ l a (m.take (b-a)))::X::S):=by
 obtain⟨h₁,e1,e2⟩:=QY s hX oL hb hl
 refine OpR.builtin I hc ha ⟨.int .i64 (min m.length (b-a):Nat),h₁,?_,e2⟩
 simp only[builtinV,hP,J,e1]
theorem OpR.abH {b:Nat}(hP:C.P=Tryz.prog)(s:Sat h (aZ v l::S))(I:o.op=.call cl)(hc:cl.callee=.builtin .copy)(J:cl.argTypes = #[23,23])(hx:lookArgs E cl.args.toList=some [slR v a a,slR v b b])
 (ha:a≤l.length)(hb:b≤l.length)(hl:1≤l.length): OpR C E h o fun _ h₁=>Sat h₁ (aZ v l::S):=by
 obtain⟨h₁,e1,e2⟩:=QZ s ha hb hl
 refine OpR.builtin I hc hx ⟨.int .i64 0,h₁,?_,e2⟩
 simp only[builtinV,hP,J,e1]
end
section
variable {told:cJ} {v:V} {kd:Nat}
theorem Eg (I:W told){f:Nat}(s:Sat h (aZ v b::S))(hl:b.length=512)(hi:30+4*i≤512)(hf:f<65536)(hz:z<65536):
  Call ⟨Tryz.prog,told⟩ 194 [.agg [v],.int .i64 (i:Int),.int .i64 (f:Int),.int .i64 (z:Int)] h fun r h'=>r=.aQ []∧Sat h' (aZ v (AF b i f z)::S):=by
 have hle:∀n,(le 2 n).length=2:=fun n=>cO 2 n
 have l1:(a_ b (26+4*i) (le 2 f)).length=512:=by rw[cI (by rw[hle];omega),hl]
 obtain⟨kz,_,cap,_,rfl,_⟩:=s.fU (by omega)
 have J:(26:Int)+4*(i:Int)=((26+4*i:Nat):Int):=by omega
 have e2:(26:Int)+4*(i:Int)+2=((26+4*i+2:Nat):Int):=by omega
 refine Call.of_wp (I.free _ rfl) Tryz.func194 rfl rfl (zg rfl ?_)
 refine au.bD s rfl rfl rfl (dB rfl rfl) (fun p4 h s => ?_)
 refine zk 4 rfl (zb rfl (by exact jf (aA (by omega) (by omega))) ?_)
 refine zb rfl (by exact bf (aA (by omega) (by omega))) ?_
 refine zk 4 rfl (zl rfl (s.cV (k:=0) rfl cK bN) (zk 2 rfl (zo rfl (bT rfl (by exact gL br bR (eP (by omega) (by omega)))) ?_)))
 rw[J]
 refine zc rfl (qz (a:=26+4*i) (z:=2) (n:=f) I (s.ae [1]) (by decide) (by decide) (by omega) (by omega)) ?_
 rintro r h ⟨rfl,s⟩
 have s:=s.ae [1,0]
 refine zk 2 rfl (zl rfl (s.cV (k:=0) rfl cK bN) (zm rfl (zo rfl (ay (r:=.int .i64 ((26+4*i+2:Nat):Int)) rfl rfl (by rw[←e2,←J];exact bf (aA (by omega) (by omega)))) ?_)))
 refine zm rfl (zo rfl (bT rfl (by exact gL br bR (eP (by omega) (by omega)))) ?_)
 refine zc rfl (qz (a:=26+4*i+2) (z:=2) (n:=z) I (s.ae [1]) (by decide) (by decide) (by omega) (by omega)) ?_
 rintro r h ⟨rfl,s⟩
 exact zv ⟨aa,_,rfl,rfl,s.del 1⟩
theorem FR (hT:W told)(s:Sat h S)(hk:getA S k=some X)(hX:cN X (cP v b))(J:eD b kd link extra cs)(hc:cs[i]?=some c):
  Call ⟨Tryz.prog,told⟩ 202 [.agg [v],.int .i64 (i:Int)] h fun r h'=>∃f,r=slR3 v f (f+c.length) (f+c.length)∧cN X (cP r c)∧Sat h' S:=by
 have hv:=s.aG hk hX
 have hl:=J.len
 have hi:=(List.getElem?_eq_some_iff.1 hc).1
 have fG:=J.fits
 have CQ:=J.low
 obtain⟨s1,s2,s3⟩:=J.slot i c hc
 have Mm:=oV (cs:=cs) (i:=i+1)
 have QX:=nO hc
 have I:=J.cell hc
 generalize hf:dS b i=f at s1 s3 I
 obtain⟨pi,po,pc,rfl⟩:=iD hv (by omega)
 refine Call.of_wp (hT.free _ rfl) Tryz.func202 rfl rfl (zg rfl ?_)
 refine au.bD s rfl rfl rfl (dB rfl rfl) (fun p2 h s => ?_)
 refine zk 4 rfl (zl rfl (s.cV (k:=0) rfl cK bN) (zm rfl (zc rfl (BJ hT s (m6 hk) hX hl (by omega)) ?_)))
 rintro r h' ⟨rfl,s⟩
 rw[hf,s2]
 refine zk 8 rfl (zY s 0 ik bJ rfl (zk 3 rfl (zb rfl (by exact bf (aA (by omega) (by omega))) ?_)))
 refine zk 2 rfl (zb rfl (by exact bf (aA (by omega) (by omega))) ?_)
 have e1:(f:Int)+(c.length:Int)=((f+c.length:Nat):Int):=by omega
 have kx:=Cf (s.aG (m6 hk) hX) (a:=f) (b:=f+c.length) (c:=f+c.length) (by omega) (aV _) (by omega) (by omega)
 rw[e1]
 refine zo rfl (bU (p:=some (.int .i64 (f:Int))) (q:=some (.int .i64 ((f+c.length:Nat):Int))) (m:=some (.int .i64 ((f+c.length:Nat):Int))) (p':=some f) (q':=some (f+c.length)) (m':=some (f+c.length)) rfl rfl rfl rfl (by rw[cW (by omega)];rfl) (by rw[cW (by omega)];rfl) (by rw[cW (by omega)];rfl) kx) ?_
 refine zk 2 rfl (WP.ret ⟨aa,_,rfl,?_⟩)
 refine⟨f,rfl,?_,s.drop⟩
 have:=GB hX (a:=f) (b:=f+c.length) (c:=f+c.length) (by omega) (aV _) (by omega) (by omega)
 rw[tL,show f+c.length-f=c.length by omega,I] at this
 exact this
theorem XK (J:W told)(s:Sat h S)(hk:getA S k=some X)(hX:cN X (cP v b))(I:eD b kd link extra cs):
  Call ⟨Tryz.prog,told⟩ 196 [.agg [v]] h fun r h'=>r=.int .i64 (486-(4*(cs.length:Int)+(tot cs:Int)))∧Sat h' S:=by
 have hv:=s.aG hk hX
 have hl:=I.len
 have fG:=I.fits
 have CQ:=I.low
 obtain⟨pi,po,pc,rfl⟩:=iD hv (by omega)
 refine Call.of_wp (J.free _ rfl) Tryz.func196 rfl rfl (zg rfl ?_)
 refine au.bD s rfl rfl rfl (dB rfl rfl) (fun p1 h s => ?_)
 refine zk 3 rfl ?_
 have s0:=s
 refine WP.drawn [none,none,some (1,2),some (0,2),af,af,af,af] rfl (by kernel_rfl) (by kernel_rfl) ?_
 refine zL rfl (s.cV (k:=0) rfl cK bN) (az.any rfl rfl rfl rfl (OpR.call rfl rfl rfl rfl (IZ J s (m6 hk) hX hl)) ?_)
 rintro r h' ⟨rfl,s⟩
 have s1:=s
 refine zO rfl (ay rfl rfl (by exact jI (aA (by omega) (by omega)))) ?_
 refine zL rfl (s.cV (k:=0) rfl cK bN) (az.any rfl rfl rfl rfl (OpR.call rfl rfl rfl rfl (lJ J s (m6 hk) hX hl)) ?_)
 rintro r h' ⟨rfl,s⟩
 rw[I.dh]
 refine zO rfl (ay rfl rfl (by exact jf (aA (by omega) (by omega)))) ?_
 refine zO rfl (ay rfl rfl (by exact jI (aA (by omega) (by omega)))) ?_
 refine zA rfl ?_
 refine az.nil ⟨⟨aa,aa,fun _ _=>.inr ⟨rfl,⟨_,ay rfl rfl (by exact jI (aA (by omega) (by omega)))⟩,aS _ rfl⟩,dZ (.inr ⟨rfl,⟨_,o_load rfl (s0.cV (k:=0) rfl cK bN)⟩,aS _ rfl⟩) (.inr ⟨rfl,⟨_,o_load rfl (s1.cV (k:=0) rfl cK bN)⟩,aS _ rfl⟩),aa,aa,aa,aa,aa⟩,?_⟩
 refine WP.ret ⟨aa,_,rfl,?_⟩
 exact⟨iW (V.int .i64) (by omega),s.drop⟩
noncomputable def pfL : Code:=cU [1,1,0,1,0,0] ((Tryz.f195.body).getD .skip)
theorem Oh (hT:W told){p1:Nat}(hX:cN X (cP x b))(Gm:x.cells=[x])(J:eD b kd link extra cs): ∀(m i:Nat) (h:H) (E:List (Nat×V)) (Q:Ex→List (Nat×V)→H→Prop),i+m=cs.length →
  Sat h (pt p1 (.cells 1 [x] false)::X::S)→Has E [(1,.ptr p1 0),(3,.int .i64 (486-(4*(cs.length:Int)+(tot (cs.take i):Int)))),(12,.int .i64 (cs.length:Int)),(13,.int .i64 (i:Int))] →
  (∀E' h',Has E' [(3,.int .i64 (486-(4*(cs.length:Int)+(tot cs:Int))))]→Sat h' (pt p1 (.cells 1 [x] false)::X::S)→Q (.exit 0) E' h')→WP ⟨Tryz.prog,told⟩ 27 (.loop pfL) E h Q:=by
 have hl:=J.len
 have fG:=J.fits
 intro m
 induction m with
 |zero =>
  intro i h E Q hi s hE hq
  refine WP.loop (WP.has hE (zg rfl (zC rfl aT (by simp<;>omega) ?_)))
  refine zk 3 rfl (WP.exit ?_)
  refine hq _ _ ⟨?_,aa⟩ s
  rw[show cs.take i=cs from gB (by omega)]
  rfl
 |succ m ih =>
  intro i h E Q hi s hE hq
  have I:cs[i]?=some (cs[i]'(by omega)):=bw _
  generalize (cs[i]'(by omega))=c at I
  obtain⟨s1,s2,s3⟩:=J.slot i c I
  have Mm:=oV (cs:=cs) (i:=i+1)
  have QX:=nO I
  refine WP.loop (WP.has hE (zg rfl (zB rfl aT (by simp<;>omega) ?_)))
  refine zk 5 rfl (WP.block (zK 7 rfl (zl rfl (s.cV (k:=0) rfl cK bN) (zm rfl (zc rfl (BJ hT (i:=i) s (k:=1) rfl hX hl (by omega)) ?_)))))
  rintro r h' ⟨rfl,s⟩
  rw[s2]
  refine zk 9 rfl (zb rfl (by exact jI (aA (by omega) (by omega))) ?_)
  refine za rfl (zv (zr rfl (zb rfl (by exact bf (aA (by omega) (by omega))) ?_)))
  refine zm rfl (zv ?_)
  refine ih (i+1) _ _ Q (by omega) s ⟨rfl,?_,rfl,rfl,aa⟩ hq
  exact iW (fun z=>some (V.int .i64 z)) (by omega)
theorem T0 (J:W told)(s:Sat h (X::S))(hX:cN X (cP v b))(I:eD b kd link extra cs):
  Call ⟨Tryz.prog,told⟩ 195 [.agg [v]] h fun r h'=>r=.int .i64 (486-(4*(cs.length:Int)+(tot cs:Int)))∧Sat h' (X::S):=by
 have hv:=s.aG (k:=0) rfl hX
 have hl:=I.len
 have fG:=I.fits
 obtain⟨pi,po,pc,rfl⟩:=iD hv (by omega)
 refine Call.of_wp (J.free _ rfl) Tryz.func195 rfl rfl (zg rfl ?_)
 refine au.bD s rfl rfl rfl (dB rfl rfl) (fun p1 h s => ?_)
 refine zk 4 rfl (zl rfl (s.cV (k:=0) rfl cK bN) (zc rfl (lJ J s (k:=1) rfl hX hl) ?_))
 rintro r h' ⟨rfl,s⟩
 rw[I.dh]
 refine zb rfl (by exact jf (aA (by omega) (by omega))) ?_
 refine zb rfl (by exact jI (aA (by omega) (by omega))) ?_
 refine zk 5 rfl (zl rfl (s.cV (k:=0) rfl cK bN) (zc rfl (lJ J s (k:=1) rfl hX hl) ?_))
 rintro r h' ⟨rfl,s⟩
 rw[I.dh]
 refine zk 2 rfl (WP.block ?_)
 refine Oh J hX rfl I cs.length 0 _ _ _ (by omega) s ⟨rfl,?_,rfl,rfl,aa⟩ (fun E' h' hE s' => ?_)
 ·exact iW (fun z=>some (V.int .i64 z)) (by have:tot (cs.take 0)=0:=rfl;omega)
 have s:=s'
 exact WP.has hE (zK 5 rfl (WP.ret ⟨aa,_,rfl,rfl,s.del 0⟩))
theorem T1 (I:W told)(s:Sat h (aZ v b::X::S))(J:cN X (cP x c))(hl:b.length=512)(hi:30+4*i≤512)(vB:jj b=lo+c.length)(aeD:lo+c.length≤512):
  Call ⟨Tryz.prog,told⟩ 198 [.agg [v],.int .i64 (i:Int),x] h fun r h'=>r=.aQ []∧Sat h' (aZ v (AF (a_ (a_ b lo c) 16 (le 2 lo)) i lo c.length)::X::S):=by
 have hle:∀n,(le 2 n).length=2:=fun n=>cO 2 n
 have l1:(a_ b lo c).length=512:=by rw[cI (by omega),hl]
 have l2:(a_ (a_ b lo c) 16 (le 2 lo)).length=512:=by rw[cI (by rw[hle];omega),l1]
 obtain⟨kz,_,cap,_,rfl,_⟩:=s.fU (by omega)
 have hxv:=s.aG (k:=1) rfl J
 have hx:=hxv.cells
 refine Call.of_wp (I.free _ rfl) Tryz.func198 rfl rfl (zg rfl ?_)
 refine au.bD s rfl rfl rfl (dB rfl rfl) (fun p3 h s => ?_)
 refine zk 3 rfl (zl rfl (s.cV (k:=0) rfl cK bN) (zc rfl (IZ I s (k:=1) rfl (aN _ _) hl) ?_))
 rintro r h' ⟨rfl,s⟩
 rw[vB]
 refine zm rfl (zo rfl (aP rfl rfl rfl (aW aJ (s.aG (k:=2) rfl J))) (zo rfl (ay (r:=.int .i64 (lo:Int)) rfl rfl (by rw[show((lo:Nat):Int)=((lo+c.length:Nat):Int)-(c.length:Int) by omega];exact jI (aA (by omega) (by omega)))) ?_))
 refine zk 4 rfl (zY s 0 ik bJ rfl (zm rfl ?_))
 have kx:=ff (s.aG (k:=1) rfl (aN _ _)) (a:=lo) (by omega)
 refine zo rfl (bU (p:=some (.int .i64 (lo:Int))) (q:=none) (m:=none) (p':=some lo) (q':=none) (m':=none) rfl rfl rfl rfl (by rw[cW (by omega)];rfl) rfl rfl kx.1) ?_
 refine zm rfl (au.any rfl rfl rfl (OpR.V9 rfl (s.ae [1,1]) J rfl rfl rfl rfl (by omega) (aV _) (by omega)) ?_)
 intro r h s
 rw[gB (by omega)] at s
 have s:=s.ae [2,0,0]
 refine zk 3 rfl (zl rfl (s.cV (k:=0) rfl cK bN) (zm rfl (zo rfl (bT rfl (by exact gL br bR (eP (by omega) (by omega)))) ?_)))
 refine zc rfl (qz (a:=16) (z:=2) (n:=lo) I (s.ae [1]) (by decide) (by decide) (by omega) (by omega)) ?_
 rintro r h ⟨rfl,s⟩
 have s:=s.ae [1,0,0]
 refine zk 2 rfl (zl rfl (s.cV (k:=0) rfl cK bN) (zk 3 rfl (zo rfl (aP rfl rfl rfl (aW aJ (s.aG (k:=2) rfl J))) (zc rfl (Eg (i:=i) (f:=lo) (z:=c.length) I (s.ae [1]) l2 hi (by omega) (by omega)) ?_))))
 rintro r h ⟨rfl,s⟩
 exact zv ⟨aa,_,rfl,rfl,s.del 1⟩
end
section
variable {told:cJ} {v:V} {kd:Nat}
theorem AG (J:W told)(s:Sat h S)(V_:kd≤255):
  Call ⟨Tryz.prog,told⟩ 39 [.int .i64 (kd:Int)] h fun r h'=>∃u,r=.aQ [u,.int .i64 0]∧Sat h' (aZ u (nP kd)::S):=by
 refine Call.of_wp (J.free _ rfl) Tryz.func39 rfl rfl (zK 9 rfl (zC rfl aT (by simp) ?_))
 refine zk 2 rfl (zC rfl fN (by simp;omega) ?_)
 refine zk 6 rfl (au.any rfl rfl rfl (OpR.nm rfl s rfl rfl rfl rfl (by decide)) ?_)
 intro u h s
 have hl:(List.replicate 512 0).length=512:=eY
 have hn:nP kd=a_ ((List.replicate 512 0).set 12 kd) 16 (le 2 512):=rfl
 generalize List.replicate 512 0=l at hl hn s
 obtain⟨kz,_,cap,_,rfl,_⟩:=s.fU (by omega)
 refine zo rfl (cj rfl (by rw[Bz];rfl)) ?_
 refine au.bD s rfl rfl rfl (bI jT) (fun p4 h s => ?_)
 refine zS rfl (s.eS (j:=0) rfl bN rfl rfl) (fun h s => ?_)
 refine zk 3 rfl (zY s 0 ik bJ rfl (zm rfl (zo rfl (bT rfl (by exact gL br Tryz.underlying5 (uC (by omega) (by omega)))) ?_)))
 have s:=s.ae [1,0]
 obtain⟨nk,I,e3,h2,e4,s2⟩:=oR s (i:=12) (b:=kd) (by omega) (by omega)
 have gE:(l.set 12 kd).length=512:=by rw[dg,hl]
 refine zo rfl (c8 (r:=.ptr nk I) rfl rfl e3) (zS rfl (⟨h2,e4,s2⟩) ?_)
 rintro h s
 have s:=s.ae [1,0]
 refine zk 3 rfl (zl rfl (s.cV (k:=0) rfl cK bN) (zc rfl (qz (a:=16) (z:=2) (n:=512) J (s.ae [1]) (by decide) (by decide) (by omega) (by omega)) ?_))
 rintro r h ⟨rfl,s⟩
 have s:=s.ae [1,0]
 refine zk 3 rfl (zY s 0 ik bJ rfl (zk 3 rfl (WP.ret ⟨aa,_,rfl,?_⟩)))
 refine⟨_,rfl,?_⟩
 rw[hn]
 exact s.drop
theorem Jw (J:W told)(s:Sat h S)(I:kd≤255):
  Call ⟨Tryz.prog,told⟩ 39 [.int .i64 (kd:Int)] h fun r h'=>∃u b,r=.aQ [u,.int .i64 0]∧eD b kd 0 0 []∧Sat h' (aZ u b::S) :=
 (AG J s I).mono fun r h' ⟨u,e,s⟩=>⟨u,_,e,eD.new (k:=kd),s⟩
theorem ME (I:W told){ex:Nat}(s:Sat h (X::S))(hX:cN X (cP v b))(J:eD b kd link extra cs)(MF:lk<4294967296)(hex:ex<4294967296):
  Call ⟨Tryz.prog,told⟩ 151 [v,.int .i64 (lk:Int),.int .i64 (ex:Int)] h fun r h'=>∃u b',r=.aQ [u,.int .i64 0]∧eD b' kd lk ex cs∧Sat h' (aZ u b'::X::S):=by
 have hl:=J.len
 have hle:∀n,(le 4 n).length=4:=fun n=>cO 4 n
 have l1:(a_ b 18 (le 4 lk)).length=512:=by rw[cI (by rw[hle];omega),hl]
 refine Call.of_wp (I.free _ rfl) Tryz.func151 rfl rfl (zK 8 rfl (zc rfl (vq I s hX (by omega)) ?_))
 rintro r h' (⟨hg,u,rfl,s⟩|⟨hg,rfl,s⟩)
 ·obtain⟨kz,_,cap,_,rfl,_⟩:=s.fU (by omega)
  refine zk 3 rfl ?_
  refine au.bD s rfl rfl rfl (bI jT) (fun p8 h s => ?_)
  dsimp only[V.cells,List.length_cons,List.length_nil,Nat.reduceAdd] at s
  refine zS rfl (s.eS (j:=0) rfl bN rfl rfl) (fun h s => ?_)
  dsimp only[setA] at s
  refine zk 3 rfl (WP.block (zK 3 rfl (zC rfl aD (rfl) (zk 6 rfl (zC rfl aT (by simp) ?_)))))
  refine zk 2 rfl (zC rfl fN (by simp;omega) ?_)
  refine zk 3 rfl (zC rfl aT (by simp) ?_)
  refine zk 3 rfl (zC rfl fN (by simp;omega) ?_)
  refine zk 2 rfl (zv (zj rfl (WP.skip (zg rfl (zl rfl (by exact s.cV (k:=0) rfl cK bN) ?_)))))
  refine zm rfl (zo rfl (bT rfl (by exact gL br bR (eP (by omega) (by omega)))) ?_)
  refine zc rfl (qz (a:=18) (z:=4) (n:=lk) I (s.ae [1]) (by decide) (by decide) (by omega) (by omega)) ?_
  rintro r h' ⟨rfl,s⟩
  have s:=s.ae [1,0]
  refine zk 3 rfl (zl rfl (s.cV (k:=0) rfl cK bN) (zm rfl (zo rfl (bT rfl (by exact gL br bR (eP (by omega) (by omega)))) ?_)))
  refine zc rfl (qz (a:=22) (z:=4) (n:=ex) I (s.ae [1]) (by decide) (by decide) (by omega) (by omega)) ?_
  rintro r h' ⟨rfl,s⟩
  have s:=s.ae [1,0]
  exact zk 3 rfl (zY s 0 ik bJ rfl (zk 3 rfl (WP.ret ⟨aa,_,rfl,_,_,rfl,J.set MF hex,s.drop⟩)))
 ·rw[J.good] at hg;cases hg
theorem AH (J:W told)(s:Sat h (X::S))(I:cN X (cP v l))(hl:l.length<1073741824):
  Call ⟨Tryz.prog,told⟩ 201 [v] h fun r h'=>Sat h' (aZ r l::X::S):=by
 have hv:=s.aG (k:=0) rfl I
 refine Call.of_wp (J.free _ rfl) Tryz.func201 rfl rfl (zK 7 rfl (zo rfl (aP rfl rfl rfl (aW aJ (s.aG (k:=0) rfl I))) (au.any rfl rfl rfl (OpR.uF rfl s rfl rfl rfl rfl (by omega)) ?_)))
 intro u h s
 refine zm rfl (au.any rfl rfl rfl (OpR.rJ rfl s I rfl rfl rfl rfl (by simp;omega)) ?_)
 intro u2 h s
 rw[dU] at s
 exact zk 2 rfl (WP.ret ⟨aa,_,rfl,s⟩)
theorem Jx (I:W told)(s:Sat h (X::S))(hX:cN X (cP v b))(J:eD b kd link extra cs)(hc:cs[i]?=some c):
  Call ⟨Tryz.prog,told⟩ 141 [v,.int .i64 (i:Int)] h fun r h'=>∃u,r=.aQ [u,.int .i64 0]∧Sat h' (aZ u c::X::S):=by
 have hl:=J.len
 have hv:=s.aG (k:=0) rfl hX
 have hi:=(List.getElem?_eq_some_iff.1 hc).1
 have fG:=J.fits
 have Mm:=oV (cs:=cs) (i:=i+1)
 have QX:=nO hc
 obtain⟨pi,po,pc,rfl⟩:=iD hv (by omega)
 refine Call.of_wp (I.free _ rfl) Tryz.func141 rfl rfl (zK 8 rfl (zc rfl (uJ I s hX (by omega)) ?_))
 rintro r h' ⟨s,(⟨hg,rfl⟩|⟨hg,rfl⟩)⟩
 ·refine au.op rfl rfl rfl (bn rfl) ?_
  refine zk 2 rfl ?_
  refine au.bD s rfl rfl rfl (bI jT) (fun p6 h s => ?_)
  dsimp only[V.cells,List.length_cons,List.length_nil,Nat.reduceAdd] at s
  refine zS rfl (s.eS (j:=0) rfl bN rfl rfl) (fun h s => ?_)
  dsimp only[setA] at s
  refine zk 3 rfl (WP.block (zK 3 rfl (zC rfl aD (rfl) (zk 6 rfl (zC rfl aT (by simp) ?_)))))
  refine zk 2 rfl (zl rfl (s.cV (k:=0) rfl cK bN) (zc rfl (lJ I s (k:=1) rfl hX hl) ?_))
  rintro r h' ⟨rfl,s⟩
  rw[J.dh]
  refine zC rfl jg (by simp;omega) ?_
  refine zk 2 rfl (zv (zj rfl (WP.skip (zg rfl (zl rfl (by exact s.cV (k:=0) rfl cK bN) ?_)))))
  refine zm rfl (zc rfl (FR (i:=i) I s (k:=1) rfl hX J hc) ?_)
  rintro r h' ⟨f,rfl,hr,s⟩
  refine zc rfl (AH I (s.ae [1]) hr (by omega)) ?_
  intro u h s
  exact zk 3 rfl (WP.ret ⟨aa,_,rfl,_,rfl,s.del 2⟩)
 ·rw[J.good] at hg;cases hg
end
theorem T2 : ∃i,Tryz.prog.info? 23=some i∧i.size=1∧i.bytes=24 :=
 ⟨_,(show Tryz.prog.info? 23=some ((Tryz.prog.info? 23).getD default) by kernel_rfl),by kernel_rfl,by kernel_rfl⟩
section
variable {told:cJ} {v:V} {kd:Nat}
set_option maxHeartbeats 1000000 in
theorem MG (I:W told)(s:Sat h (X::Y::S))(hX:cN X (cP v b))(hY:cN Y (cP x c))(hp:eD b kd link extra cs)(hf:26+4*(cs.length+1)+(tot cs+c.length)≤512):
  Call ⟨Tryz.prog,told⟩ 152 [v,.int .i64 (cs.length:Int),x] h fun r h'=>∃u b',r=.aQ [u,.int .i64 0]∧eD b' kd link extra (cs++[c])∧Sat h' (aZ u b'::X::Y::S):=by
 have hl:=hp.len
 have CQ:=hp.low
 have hle:∀n,(le 2 n).length=2:=fun n=>cO 2 n
 generalize hn:cs.length=n at hf
 have J:=hp.dh
 have vB:∃lo,lo+(tot cs+c.length)=512:=⟨512-(tot cs+c.length),by omega⟩
 obtain⟨lo,vB⟩:=vB
 have l1:(a_ b 14 (le 2 (n+1))).length=512:=by grind[cI]
 have gE:jj (a_ b 14 (le 2 (n+1)))=lo+c.length:=by
  grind[jj,BM]
 refine Call.of_wp (I.free _ rfl) Tryz.func152 rfl rfl (zK 8 rfl (zc rfl (vq I s hX (by omega)) ?_))
 rintro r h' (⟨hg,u,rfl,s⟩|⟨hg,rfl,s⟩)
 ·obtain⟨kz,_,cap,_,rfl,_⟩:=s.fU (by omega)
  refine zk 3 rfl ?_
  refine au.bD s rfl rfl rfl (bI jT) (fun p8 h s => ?_)
  dsimp only[V.cells,List.length_cons,List.length_nil,Nat.reduceAdd] at s
  refine zS rfl (s.eS (j:=0) rfl bN rfl rfl) (fun h s => ?_)
  dsimp only[setA] at s
  refine zk 3 rfl (WP.block (zK 3 rfl (zC rfl aD (rfl) (zk 6 rfl (zC rfl aT (by simp) ?_)))))
  refine zk 2 rfl (zl rfl (s.cV (k:=0) rfl cK bN) (zc rfl (lJ I s (k:=1) rfl (aN _ _) hl) ?_))
  rintro r h' ⟨rfl,s⟩
  rw[J,hn]
  refine zC rfl fN (by simp) ?_
  refine zk 6 rfl (zl rfl (s.cV (k:=0) rfl cK bN) (zc rfl (T0 I (s.ae [1]) (aN _ _) hp) ?_))
  rintro r h' ⟨rfl,s⟩
  have s:=s.ae [1,0]
  dsimp only[aE,bringA,getA] at s
  rw[hn]
  refine zm rfl (zo rfl (aP rfl rfl rfl (aW aJ (s.aG (k:=3) rfl hY))) (zb rfl (by exact bf (aA (by omega) (by omega))) ?_))
  refine zC rfl aT (by grind) ?_
  refine za rfl (zv (zj rfl (WP.skip (zw (zg rfl (zl rfl (by exact s.cV (k:=0) rfl cK bN) ?_))))))
  refine zc rfl (XK I s (k:=1) rfl (aN _ _) hp) ?_
  rintro r h' ⟨rfl,s⟩
  rw[hn]
  refine zm rfl (zo rfl (aP rfl rfl rfl (aW aJ (s.aG (k:=3) rfl hY))) (zb rfl (by exact bf (aA (by omega) (by omega))) ?_))
  refine zC rfl aT (by grind) ?_
  refine zv (zj rfl (WP.skip (zg rfl (zl rfl (by exact s.cV (k:=0) rfl cK bN) ?_))))
  refine zc rfl (lJ I s (k:=1) rfl (aN _ _) hl) ?_
  rintro r h' ⟨rfl,s⟩
  rw[J,hn]
  refine zk 3 rfl ?_
  have q1:((26:Int)+4*((n:Int)+1)).toNat=30+4*n:=by omega
  have q2:((26:Int)+4*(n:Int)).toNat=26+4*n:=by omega
  have s0:=s
  refine WP.drawn [af,af,af,af,af,af,af,af,af,af,af,af,af,af,af,af,af,af,af,af,af] rfl (by kernel_rfl) (by kernel_rfl) ?_
  refine zF rfl (ik _ _) (zL rfl (s.ld (k:=0) rfl bJ rfl) (zM rfl (zO rfl (ay rfl rfl (by exact bf (aA (by omega) (by omega)))) ?_)))
  refine zO rfl (ay rfl rfl (by exact jf (aA (by omega) (by omega)))) ?_
  refine zO rfl (ay rfl rfl (by exact bf (aA (by omega) (by omega)))) ?_
  refine zM rfl (zO rfl (ay rfl rfl (by exact bf (aA (by omega) (by omega)))) ?_)
  refine zO rfl (ay rfl rfl (by exact jf (aA (by omega) (by omega)))) ?_
  refine zO rfl (ay rfl rfl (by exact bf (aA (by omega) (by omega)))) ?_
  refine zO rfl (bU (p:=some (.int .i64 (26+4*((n:Int)+1)))) (q:=some (.int .i64 (26+4*((n:Int)+1)))) (m:=none) (p':=some (30+4*n)) (q':=some (30+4*n)) (m':=none) rfl rfl rfl rfl (by rw[cW (by omega),q1]) (by rw[cW (by omega),q1]) rfl (dc (s.buf (k:=1) rfl).view (aV _) (by omega)).1) ?_
  refine zF rfl (ik _ _) (zL rfl (s.ld (k:=0) rfl bJ rfl) (zM rfl (zO rfl (ay rfl rfl (by exact jf (aA (by omega) (by omega)))) ?_)))
  refine zO rfl (ay rfl rfl (by exact bf (aA (by omega) (by omega)))) ?_
  refine zM rfl (zO rfl (ay rfl rfl (by exact jf (aA (by omega) (by omega)))) ?_)
  refine zO rfl (ay rfl rfl (by exact bf (aA (by omega) (by omega)))) ?_
  refine zO rfl (bU (p:=some (.int .i64 (26+4*(n:Int)))) (q:=some (.int .i64 (26+4*(n:Int)))) (m:=none) (p':=some (26+4*n)) (q':=some (26+4*n)) (m':=none) rfl rfl rfl rfl (by rfl) (by rfl) rfl (dc (s.buf (k:=1) rfl).view (aV _) (by omega)).1) ?_
  refine az.any rfl rfl rfl rfl (OpR.abH rfl (s.ae [1]) rfl rfl rfl rfl (by omega) (by omega) (by omega)) ?_
  intro r h s
  have s:=s.ae [1,0]
  refine az.nil ⟨⟨aa,aa,aa,aa,aa,aa,aa,aa,aa,aa,aa,aa,aa,aa,aa,aa,aa,aa,aa,aa,aa,aa⟩,?_⟩
  refine zg rfl (zl rfl (s.cV (k:=0) rfl cK bN) (zm rfl (zb rfl (by exact bf (aA (by omega) (by omega))) ?_)))
  refine zo rfl (bT rfl (by exact gL br bR (eP (by omega) (by omega)))) ?_
  have en:(n:Int)+1=((n+1:Nat):Int):=by omega
  rw[en]
  refine zc rfl (qz (a:=14) (z:=2) (n:=n+1) I (s.ae [1]) (by decide) (by decide) (by omega) (by omega)) ?_
  rintro r h ⟨rfl,s⟩
  have s:=s.ae [1,0]
  refine zk 3 rfl (zl rfl (s.cV (k:=0) rfl cK bN) (zk 2 rfl (zc rfl (T1 (i:=n) (lo:=lo) I (s.ae [1,2]) hY l1 (by omega) gE (by omega)) ?_)))
  rintro r h ⟨rfl,s⟩
  have s:=s.ae [2,0,1,0]
  refine zk 3 rfl (zY s 0 ik bJ rfl (zk 3 rfl (WP.ret ⟨aa,_,rfl,?_⟩)))
  subst hn
  exact⟨_,_,rfl,hp.ins hf vB,s.drop⟩
 ·rw[hp.good] at hg;cases hg
theorem BN (hT:W told)(s:Sat h (X::Y::S))(hX:cN X (cP v b))(hY:cN Y (cP x c'))(J:eD b kd link extra cs)(hc:cs[i]?=some c)(Q0:c'.length=c.length):
  Call ⟨Tryz.prog,told⟩ 134 [v,.int .i64 (i:Int),x] h fun r h'=>∃u b',r=.aQ [u,.int .i64 0]∧eD b' kd link extra (cs.set i c')∧Sat h' (aZ u b'::X::Y::S):=by
 have hl:=J.len
 have fG:=J.fits
 have hi:=(List.getElem?_eq_some_iff.1 hc).1
 have QX:=nO hc
 have I:=J.rep hc Q0
 obtain⟨s1,s2,s3⟩:=J.slot i c hc
 generalize hf:dS b i=f at s1 s3 I
 have l1:(a_ b f c').length=512:=by rw[cI (by omega),hl]
 refine Call.of_wp (hT.free _ rfl) Tryz.func134 rfl rfl (zK 8 rfl (zc rfl (vq hT s hX (by omega)) ?_))
 rintro r h' (⟨hg,u,rfl,s⟩|⟨hg,rfl,s⟩)
 ·obtain⟨kz,_,cap,_,rfl,_⟩:=s.fU (by omega)
  refine zk 3 rfl ?_
  refine au.bD s rfl rfl rfl (bI jT) (fun p8 h s => ?_)
  dsimp only[V.cells,List.length_cons,List.length_nil,Nat.reduceAdd] at s
  refine zS rfl (s.eS (j:=0) rfl bN rfl rfl) (fun h s => ?_)
  dsimp only[setA] at s
  refine zk 3 rfl (WP.block (zK 3 rfl (zC rfl aD (rfl) (zk 6 rfl (zC rfl aT (by simp) ?_)))))
  refine zk 2 rfl (zl rfl (s.cV (k:=0) rfl cK bN) (zc rfl (lJ hT s (k:=1) rfl (aN _ _) hl) ?_))
  rintro r h' ⟨rfl,s⟩
  rw[J.dh]
  refine zC rfl jg (by grind) ?_
  refine zk 2 rfl (zv (zj rfl (WP.skip (zg rfl (zl rfl (by exact s.cV (k:=0) rfl cK bN) ?_)))))
  refine zm rfl (zc rfl (BJ (i:=i) hT s (k:=1) rfl (aN _ _) hl (by omega)) ?_)
  rintro r h' ⟨rfl,s⟩
  rw[hf,s2]
  refine zk 10 rfl (zo rfl (aP rfl rfl rfl (aW aJ (s.aG (k:=3) rfl hY))) (zm rfl (zB rfl CG (by grind) ?_)))
  refine zk 4 rfl (zY s 0 ik bJ rfl (zm rfl ?_))
  have kx:=ff (s.aG (k:=1) rfl (aN _ _)) (a:=f) (by omega)
  refine zo rfl (bU (p:=some (.int .i64 (f:Int))) (q:=none) (m:=none) (p':=some f) (q':=none) (m':=none) rfl rfl rfl rfl (by rfl) rfl rfl kx.1) ?_
  refine zm rfl (au.any rfl rfl rfl (OpR.V9 rfl (s.ae [1,2]) hY rfl rfl rfl rfl (by omega) (aV _) (by omega)) ?_)
  intro r h s
  rw[gB (by omega)] at s
  have s:=s.ae [2,0,1,0]
  refine zk 3 rfl (zl rfl (s.cV (k:=0) rfl cK bN) (zk 3 rfl (zo rfl (aP rfl rfl rfl (aW aJ (s.aG (k:=3) rfl hY))) (zc rfl (Eg (i:=i) (f:=f) (z:=c'.length) hT (s.ae [1]) l1 (by omega) (by omega) (by omega)) ?_))))
  rintro r h ⟨rfl,s⟩
  have s:=s.ae [1,0]
  exact zk 3 rfl (zY s 0 ik bJ rfl (zk 3 rfl (WP.ret ⟨aa,_,rfl,_,_,rfl,I,s.drop⟩)))
 ·rw[J.good] at hg;cases hg
theorem Oi (I:W told){c0 c1:List Nat}(s:Sat h (X::S))(hX:cN X (cP v b))(J:eD b kd link extra [c0,c1]):
  Call ⟨Tryz.prog,told⟩ 203 [v] h fun r h'=>∃w u0 u1,r=.aQ [w,.int .i64 0]∧Sat h' (.arr 1 w [u0,u1]::aZ u0 c0::aZ u1 c1::X::S):=by
 have hl:=J.len
 have hv:=s.aG (k:=0) rfl hX
 have fG:=J.fits
 simp only[tot,bz,cG] at fG
 obtain⟨pi,po,pc,rfl⟩:=iD hv (by omega)
 obtain⟨i1,kA,jE,qg⟩:=T2
 refine Call.of_wp (I.free _ rfl) Tryz.func203 rfl rfl (zK 8 rfl (zc rfl (uJ I s hX (by omega)) ?_))
 rintro r h' ⟨s,(⟨hg,rfl⟩|⟨hg,rfl⟩)⟩
 ·refine au.op rfl rfl rfl (bn rfl) ?_
  refine zk 2 rfl ?_
  refine au.bD s rfl rfl rfl (bI jT) (fun p4 h s => ?_)
  dsimp only[V.cells,List.length_cons,List.length_nil,Nat.reduceAdd] at s
  refine zS rfl (s.eS (j:=0) rfl bN rfl rfl) (fun h s => ?_)
  dsimp only[setA] at s
  refine zk 6 rfl (zC rfl aD (rfl) (zk 5 rfl (zl rfl (s.cV (k:=0) rfl cK bN) (zc rfl (lJ I s (k:=1) rfl hX hl) ?_))))
  rintro r h' ⟨rfl,s⟩
  rw[show lI b=2 from J.dh]
  obtain⟨wv,h1,e3,s1⟩:=Gy (P:=Tryz.prog) s gz kA o8 jE (by omega) rfl (by decide) (by decide) (n:=0) (c:=2) (by decide) (by decide)
  refine au.any rfl rfl rfl (OpR.of (R:=fun v h'=>v=wv∧h'=h1) (tu rfl rfl e3) ⟨rfl,rfl⟩) ?_
  rintro w0 h ⟨rfl,rfl⟩
  have s:Sat h (.arr 1 w0 []::_):=s1
  have s:=s.ae [1,1,0]
  dsimp only[bringA,getA,aE] at s
  refine zk 5 rfl (zl rfl (s.cV (k:=0) rfl cK bN) (zc rfl (lJ I s (k:=1) rfl hX hl) ?_))
  rintro r h' ⟨rfl,s⟩
  rw[show lI b=2 from J.dh]
  refine zk 2 rfl (WP.block (WP.loop (zg rfl (zB rfl aT (by decide) ?_))))
  refine zk 5 rfl (WP.block (zK 7 rfl (zl rfl (s.cV (k:=0) rfl cK bN) (zm rfl (zc rfl (FR (i:=0) (c:=c0) I s (k:=1) rfl hX J rfl) ?_)))))
  rintro r h' ⟨f,rfl,hr,s⟩
  refine zc rfl (AH I (s.ae [1]) hr (by omega)) ?_
  intro u0 h s
  have hu0:=(s.buf (k:=0) rfl).view.cells
  have s:=s.ae [3]
  dsimp only[aE,bringA,getA] at s
  obtain⟨iv,h1,xj,s1⟩:=kI (P:=Tryz.prog) (k:=1) (x:=u0) s gz o8 gY rfl (by decide) (by decide) (by grind) (by grind)
  rw[hu0.1] at s1
  refine au.any rfl rfl rfl (OpR.of (R:=fun v h'=>v=iv∧h'=h1) (oF rfl xj) ⟨rfl,rfl⟩) ?_
  rintro v' h' ⟨rfl,rfl⟩
  obtain⟨av,h2,sD,s2⟩:=gU (s1.ae [1,0]) gz kA o8 jE (by omega) rfl (by decide) (by simp)
  dsimp only[List.nil_append,aE,bringA] at s2
  refine au.any rfl rfl rfl (OpR.of (R:=fun v h'=>v=av∧h'=h2) (mI rfl rfl sD) ⟨rfl,rfl⟩) ?_
  rintro v' h ⟨rfl,rfl⟩
  have s:=(s2.del 1).ae [3,2,0,0]
  dsimp only[aE,bringA,getA] at s
  refine za rfl (zv (zr rfl (zb rfl (by exact bf (aA (by omega) (by omega))) ?_)))
  refine zm rfl (zv (WP.loop (zg rfl (zt rfl (ay rfl rfl aT) (by decide) ?_))))
  refine zk 5 rfl (WP.block (zK 7 rfl (zl rfl (s.cV (k:=0) rfl cK bN) (zm rfl (zc rfl (FR (i:=1) (c:=c1) I s (k:=1) rfl hX J rfl) ?_)))))
  rintro r h' ⟨f1,rfl,oQ,s⟩
  refine zc rfl (AH I (s.ae [1]) oQ (by omega)) ?_
  intro u1 h s
  have hu1:=(s.buf (k:=0) rfl).view.cells
  have s:=s.ae [3]
  dsimp only[aE,bringA,getA] at s
  obtain⟨iv1,h1,xj,s1⟩:=kI (P:=Tryz.prog) (k:=1) (x:=u1) s gz o8 gY rfl (by decide) (by decide) (by grind) (by grind)
  rw[hu1.1] at s1
  refine au.any rfl rfl rfl (OpR.of (R:=fun v h'=>v=iv1∧h'=h1) (oF rfl xj) ⟨rfl,rfl⟩) ?_
  rintro v' h' ⟨rfl,rfl⟩
  obtain⟨av1,h2,sD,s2⟩:=gU (s1.ae [1,0]) gz kA o8 jE (by omega) rfl (by decide) (by simp)
  dsimp only[List.cons_append,List.nil_append,aE,bringA] at s2
  refine au.any rfl rfl rfl (OpR.of (R:=fun v h'=>v=av1∧h'=h2) (mI rfl rfl sD) ⟨rfl,rfl⟩) ?_
  rintro v' h ⟨rfl,rfl⟩
  have s:=(s2.del 1).ae [3,2,0,1,0]
  dsimp only[aE,bringA,getA] at s
  refine za rfl (zv (zr rfl (zb rfl (by exact bf (aA (by omega) (by omega))) ?_)))
  refine zm rfl (zv (WP.loop (zg rfl (zh rfl (ay rfl rfl aT) (by decide) ?_))))
  exact zk 3 rfl (WP.exit (zK 6 rfl (WP.ret ⟨aa,_,rfl,_,_,_,rfl,(s.ae [2,2,2,1]).del 4⟩)))
 ·rw[J.good] at hg;cases hg
end
def Sm (N:Nat)(ε aj:bA): Prop:=(∀m,pgA aj m=pgA ε m)∧(∀P:VP,nN N P→vw P ε→vw P aj)∧b6 aj≤b6 ε
theorem Sm.refl (N:Nat)(ε:bA): Sm N ε ε:=⟨fun _=>rfl,fun _ _ h=>h,aV _⟩
theorem Sm.trans {a b c:bA}(h:Sm N a b)(g:Sm N b c): Sm N a c:=⟨fun m=>(g.1 m).trans (h.1 m),fun P I J=>g.2.1 P I (h.2.1 P I J),cM g.2.2 h.2.2⟩
structure Eh (told : cJ) (N B : Nat) (rv : V) (A : bA → aI) (pg : bA → Int → List Nat) : Prop where
 iface : ∃ ty u f, rv = .iface ty u ∧ methV Tryz.prog ty "Read" = some f ∧ ∀ {h : H} {S : List aI} {ε : bA} {n : Int}, EI N B ε → 0 ≤ n → n < N → Sat h (A ε :: S) →
  Call ⟨Tryz.prog, told⟩ f [u, .int .i64 n] h fun v h' => ∃ w aj, v = .aQ [w, .int .i64 0] ∧ EI N B aj ∧ Sm N ε aj ∧ Sat h' (aZ w (pg ε n) :: A aj :: S)
 same : ∀ {ε aj : bA}, Sm N ε aj → ∀ m, pg aj m = pg ε m
structure MH (told : cJ) (N : Nat) (lv dd : bA → Prop) (sm : bA → bA → Prop) (rv : V) (A : bA → aI) (pg : bA → Int → List Nat) : Prop where
 iface : ∃ ty u f, rv = .iface ty u ∧ methV Tryz.prog ty "Read" = some f ∧ ∀ {h : H} {S : List aI} {ε : bA} {n : Int}, lv ε → 0 ≤ n → n < N → Sat h (A ε :: S) →
  Call ⟨Tryz.prog, told⟩ f [u, .int .i64 n] h fun v h' => (∃ aj, v = .aQ [.aY, .int .i64 9] ∧ dd aj ∧ Sat h' (A aj :: S)) ∨ ∃ w aj, v = .aQ [w, .int .i64 0] ∧ lv aj ∧ sm ε aj ∧ Sat h' (aZ w (pg ε n) :: A aj :: S)
 same : ∀ {ε aj : bA}, sm ε aj → ∀ m, pg aj m = pg ε m
 tr : ∀ {a b c : bA}, sm a b → sm b c → sm a c
abbrev noD : bA→Prop:=fun _=>False
theorem Eh.m {told:cJ}{pg:bA→Int→List Nat}(I:Eh told N B rv A pg): MH told N (EI N B) noD (Sm N) rv A pg:=by
 obtain⟨ty,u,f,e,hm,J⟩:=I.iface
 exact⟨⟨ty,u,f,e,hm,fun a b c s=>(J a b c s).mono fun _ _ k=>.inr k⟩,I.same,Sm.trans⟩
section
variable {v c:V} {cs:List V} {te t':TypeId}
theorem Sat.AI (s:Sat h S)(J:getA S k=some (.arr 1 v cs))(hi:cs[i]?=some c)(hu:P.underlying t=some (.slice te))(I:bB P te=some 1)(e:indexAddrV P t v (.int .i64 (i:Int))=some (.ptr id off))(ha:isAggT P t'=some false): loadV P h t' (.ptr id off)=some c:=by
 grind[kJ]
theorem XL {s d:TypeId}{x:Operand}{r:V}{h₁:H}(I:bj E x=some v)(J:convV P h s d v=none)(h2:convB P h s d v=some (r,h₁)): opE P E h (.convert s d x)=some (r,h₁):=by
 grind[opE,jA]
end
def gj : List Nat:=[109,117,110,105,109,101,110,116]
theorem T3 : buildSliceV Tryz.prog h 23 8 [(0,.int .u8 109),(1,.int .u8 117),(2,.int .u8 110),(3,.int .u8 105),(4,.int .u8 109),(5,.int .u8 101),(6,.int .u8 110),(7,.int .u8 116)]=some (.sl h.next 0 8 (.exact 8),newRow h (ofBytes gj)):=by
 simp only[buildSliceV,aJ,eA,o7,V.cells]
 rfl
theorem HT {x:Operand}{b:Nat}(I:0<b)(hw:a<9223372036854775808): binV P h .quo t x y (.int .i64 (a:Int)) (.int .i64 (b:Int))=some (.int .i64 ((a/b:Nat):Int)):=by
 simp only[binV,ikBeq,ah,intV]
 have:intBeq (b:Int) 0=false:=by rw[kW];simp;omega
 have J:a/b≤a:=Nat.div_le_self a b
 grind[aA]
section
variable {told:cJ} {n:Nat} {v y:V} {kd:Nat} {pg:bA→Int→List Nat} {sm:bA→bA→Prop}
theorem Jy (J:W told)(s:Sat h S): Call ⟨Tryz.prog,told⟩ 148 [] h fun r h'=>Sat h' (.cD r gj::S):=by
 refine Call.of_wp (J.free _ rfl) Tryz.func148 rfl rfl (zK 6 rfl (au.any rfl rfl rfl (OpR.of (R:=fun v h'=>v=.sl h.next 0 8 (.exact 8)∧h'=newRow h (ofBytes gj)) (oF rfl T3) ⟨rfl,rfl⟩) ?_))
 rintro v I ⟨rfl,rfl⟩
 have s1:Sat (newRow h (ofBytes gj)) (pt h.next (.cells 8 (ofBytes gj) false)::S):=s.new _
 generalize newRow h (ofBytes gj)=I at s1
 generalize h.next=id at s1
 have hg:=s1.row (k:=0) rfl
 have e1:convB Tryz.prog I 23 23 (.sl id 0 8 (.exact 8))=some (.sl id 0 8 (.exact 8),I.put id (some (.cells 8 (ofBytes gj) true))):=by
  simp only[convB,aJ,Tryz.underlying5,hg]
  rfl
 have e0:convV Tryz.prog I 23 23 (.sl id 0 8 (.exact 8))=none:=by
  simp only[convV,aJ]
 have s2:Sat (I.put id (some (.cells 8 (ofBytes gj) true))) (pt id (.cells 8 (ofBytes gj) true)::S):=s1.put (k:=0) rfl
 have s3:Sat (I.put id (some (.cells 8 (ofBytes gj) true))) (.cD (.sl id 0 8 (.exact 8)) gj::S):=s2.freeze.iu (B:=.cD (.sl id 0 8 (.exact 8)) gj) fun m r hm=>⟨by decide,.inr ⟨id,0,.exact 8,8,_,true,rfl,hm,rfl,by decide,rfl,by decide⟩⟩
 refine au.any rfl rfl rfl (OpR.of (R:=fun v h'=>v=.sl id 0 8 (.exact 8)∧h'=I.put id (some (.cells 8 (ofBytes gj) true))) (XL rfl e0 e1) ⟨rfl,rfl⟩) ?_
 rintro v h2 ⟨rfl,rfl⟩
 exact zk 2 rfl (WP.ret ⟨aa,_,rfl,s3⟩)
theorem Q1 (J:W told)(hx:View h x l)(hy:View h y c): Call ⟨Tryz.prog,told⟩ 204 [x,y] h fun r h'=>r=.bool (decide (l=c))∧h'=h:=by
 refine Call.of_wp (J.free _ rfl) Tryz.func204 rfl rfl (zK 7 rfl (zo rfl (bT rfl (cvS hx)) (zm rfl (zo rfl (bT rfl (cvS hy)) ?_))))
 by_cases I:l=c
 ·skip
  exact zB rfl VB (decide_eq_true I) (zk 2 rfl (WP.ret ⟨aa,_,rfl,by rw[eE I],rfl⟩))
 ·skip
  exact zC rfl VB (decide_eq_false I) (zk 2 rfl (WP.ret ⟨aa,_,rfl,by rw[gC I],rfl⟩))
theorem Q2 (I:W told)(J:1≤n)(h2:n≤3000): Call ⟨Tryz.prog,told⟩ 146 [.int .i64 (n:Int)] h fun r h'=>r=.int .i64 2∧h'=h:=by
 have e:(n+2999)/3000=1:=by omega
 refine Call.of_wp (I.free _ rfl) Tryz.func146 rfl rfl (zK 7 rfl (zb rfl (by exact bf (aA (by omega) (by omega))) ?_))
 refine zb rfl (by exact jI (aA (by omega) (by omega))) ?_
 refine zo rfl (ay (r:=.int .i64 (((n+2999)/3000:Nat):Int)) rfl rfl (by rw[show(n:Int)+3000-1=((n+2999:Nat):Int) by omega];exact HT (by decide) (by omega))) ?_
 rw[e]
 refine zb rfl (by exact bf (aA (by omega) (by omega))) ?_
 exact zk 2 rfl (WP.ret ⟨aa,_,rfl,rfl,rfl⟩)
theorem XM (hT:W told)(hR:MH told N lv dd sm rv A pg)(mS:lv ε)(hN:1≤N)(hp:eD (pg ε 0) 201 n extra [gj,R])(Ei:R.length=64)(s:Sat h (A ε::S)):
  Call ⟨Tryz.prog,told⟩ 144 [rv] h fun v h'=>(∃aj,v=.aQ [.aY,.int .i64 0,.bool false,.int .i64 9]∧Sat h' (A aj::S)∧dd aj)∨∃u aj,v=.aQ [u,.int .i64 (n:Int),.bool true,.int .i64 0]∧lv aj∧sm ε aj∧Sat h' (aZ u R::A aj::S):=by
 obtain⟨ty,u,f,rfl,hm,lQ⟩:=hR.iface
 refine Call.of_wp (hT.free _ rfl) Tryz.func144 rfl rfl (zK 10 rfl (au.any rfl rfl rfl (OpR.invoke rfl rfl rfl hm rfl (lQ mS (by decide) (by omega) s)) ?_))
 rintro v h (⟨aj,rfl,hd,s⟩|⟨u,aj,rfl,GR,hs,s⟩)
 ·skip
  refine zk 10 rfl (zB rfl aD (by decide) ?_)
  exact zk 10 rfl (WP.ret ⟨aa,_,rfl,.inl ⟨aj,rfl,s,hd⟩⟩)
 refine zk 10 rfl (zC rfl aD (rfl) (zk 6 rfl (zc rfl (Oi hT s (aN _ _) hp) ?_)))
 rintro v h ⟨w,u0,u1,rfl,s⟩
 obtain⟨id0,I,g1,g2⟩:=kJ (P:=Tryz.prog) s (k:=0) (i:=0) (c:=u0) rfl rfl gz gY
 obtain⟨id1,J,g3,g4⟩:=kJ (P:=Tryz.prog) s (k:=0) (i:=1) (c:=u1) rfl rfl gz gY
 have hbw:=(s.iz (j:=0) rfl).2.2
 have wH:=cX (s.buf (k:=1) rfl).view
 refine zk 8 rfl ?_
 have s0:=s
 refine WP.drawn [af,af,af,af,af,af,af,af,some (0,2),some (0,2),some (0,2),af,af,af,af,af,af,af,af,af,af,af] rfl (by kernel_rfl) (by kernel_rfl) ?_
 refine zM rfl (az.kU rfl rfl rfl rfl (ay rfl rfl aD) (by decide) ?_)
 refine zM rfl (zM rfl (zO rfl (aP rfl rfl rfl (s.fR (n:=2) (j:=0) rfl rfl (by decide) gz)) ?_))
 refine az.kU rfl rfl rfl rfl (ay rfl rfl aD) (by decide) ?_
 refine zO rfl (mo rfl rfl) (zM rfl (zM rfl (zO rfl (c8 (r:=.ptr id0 I) rfl rfl g1) (zL rfl (s.AI (k:=0) (i:=0) rfl rfl gz gY g1 bJ) (az.any rfl rfl rfl rfl (OpR.call rfl rfl rfl rfl (Jy hT s)) ?_)))))
 intro mv h s
 have s:=s.ae [1,1,1,1,1,0]
 have s1:=s
 refine az.any rfl rfl rfl rfl (OpR.call rfl rfl rfl rfl (Q1 hT (s.buf (k:=1) rfl).view (s.aG (k:=5) rfl (dy _ _)))) ?_
 rintro r h' ⟨rfl,rfl⟩
 rw[show decide (gj=gj)=true from eE rfl]
 refine zO rfl (eU rfl rfl) (zO rfl (mo rfl rfl) (zM rfl (zM rfl (zO rfl (c8 (r:=.ptr id1 J) rfl rfl g3) (zL rfl (s.AI (k:=0) (i:=1) rfl rfl gz gY g3 bJ) (zO rfl (aP rfl rfl rfl (aW aJ (s.aG (k:=2) rfl (aN _ _)))) ?_))))))
 rw[Ei]
 refine az.kU rfl rfl rfl rfl (ay rfl rfl aD) (by decide) ?_
 refine zO rfl (mo rfl rfl) ?_
 refine az.nil ⟨⟨aa,aa,aa,aa,aa,aa,aa,aa,fun _ _=>.inr ⟨rfl,⟨_,bn rfl⟩,hbw⟩,fun _ _=>.inr ⟨rfl,⟨_,c8 (r:=.ptr id0 I) rfl rfl g1⟩,aS _ rfl⟩,dZ (.inr ⟨rfl,⟨_,o_load rfl (s0.AI (k:=0) (i:=0) rfl rfl gz gY g1 bJ)⟩,wH⟩) (.inr ⟨rfl,⟨_,o_load rfl (s1.AI (k:=0) (i:=0) rfl rfl gz gY g1 bJ)⟩,wH⟩),aa,aa,aa,aa,aa,aa,aa,aa,aa,aa,aa,aa⟩,?_⟩
 refine zK 5 rfl ?_
 have B4:=hp.len
 refine zc rfl (Mf hT (s.ae [3]) (aN _ _) (by omega)) ?_
 rintro v h ⟨s,(⟨hg,rfl⟩|⟨hg,rfl⟩)⟩
 ·rw[show(pg ε 0).getD 12 0=201 from hp.kind,show dF (pg ε 0) 18 4=n from hp.link]
  have s:=s.ae [1,1,1,1,0]
  refine zk 16 rfl (zC rfl aD (by decide) ?_)
  exact zk 6 rfl (zo rfl (c8 (r:=.ptr id1 J) rfl rfl g3) (zl rfl (s.AI (k:=0) (i:=1) rfl rfl gz gY g3 bJ) (zk 6 rfl (WP.ret ⟨aa,_,rfl,.inr ⟨_,aj,rfl,GR,hs,(((((s.ae [2,2]).del 5).del 4).del 3).del 2)⟩⟩))))
 ·rw[hp.good] at hg;cases hg
theorem Jz (hT:W told)(hR:MH told N lv dd sm rv A pg)(J:lv ε)(hN:1≤N)(hp:eD (pg ε 0) 201 n extra [gj,R])(Ei:R.length=64)(s:Sat h (A ε::S)):
  Call ⟨Tryz.prog,told⟩ 200 [rv] h fun v h'=>(∃aj,v=.aQ [.aY,.int .i64 0,.int .i64 9]∧Sat h' (A aj::S)∧dd aj)∨∃u aj,v=.aQ [u,.int .i64 (n:Int),.int .i64 0]∧lv aj∧sm ε aj∧Sat h' (aZ u R::A aj::S):=by
 refine Call.of_wp (hT.free _ rfl) Tryz.func200 rfl rfl (zK 9 rfl (zc rfl (XM hT hR J hN hp Ei s) ?_))
 rintro v h (⟨aj,rfl,s,hd⟩|⟨u,aj,rfl,I,hs,s⟩)
 ·skip
  refine zk 11 rfl (WP.block (zK 3 rfl (zB rfl aD (by decide) ?_)))
  exact zk 10 rfl (WP.ret ⟨aa,_,rfl,.inl ⟨aj,rfl,s,hd⟩⟩)
 refine zk 9 rfl (zv (zw (WP.block (zg rfl (zm rfl (zh rfl (ay rfl rfl aD) (rfl) (za rfl (zv (zj rfl (zg rfl (zm rfl (zo rfl (eU rfl rfl) (za rfl (zv (zj rfl (WP.skip (zg rfl (zk 5 rfl (zv ?_)))))))))))))))))))
 refine WP.ret ⟨aa,_,rfl,?_⟩
 exact .inr ⟨u,aj,rfl,I,hs,s⟩
theorem XN (hT:W told)(hR:Eh told N B rv A pg)(I:EI N B ε)(hN:1≤N)(hp:eD (pg ε 0) 201 n extra [gj,R])(J:R.length=64)(s:Sat h (A ε::S)):
  Call ⟨Tryz.prog,told⟩ 200 [rv] h fun v h'=>∃u aj,v=.aQ [u,.int .i64 (n:Int),.int .i64 0]∧EI N B aj∧Sm N ε aj∧Sat h' (aZ u R::A aj::S) :=
 (Jz hT hR.m I hN hp J s).mono fun _ _ k=>k.resolve_left fun⟨_,_,_,q⟩=>q
theorem MI (hT:W told)(hR:MH told N lv dd sm rv A pg)(J:lv ε)(hN:2≤N)(hp:eD (pg ε 1) kd link extra [M])(hM:M.length=375)(s:Sat h (A ε::S)):
  Call ⟨Tryz.prog,told⟩ 222 [rv,.int .i64 0] h fun v h'=>(∃aj,v=.aQ [.aY,.aY,.int .i64 9]∧Sat h' (A aj::S)∧dd aj)∨∃w u aj,v=.aQ [w,u,.int .i64 0]∧lv aj∧sm ε aj∧Sat h' (aZ u M::aZ w (pg ε 1)::A aj::S):=by
 obtain⟨ty,u,f,rfl,hm,lQ⟩:=hR.iface
 refine Call.of_wp (hT.free _ rfl) Tryz.func222 rfl rfl (zK 11 rfl (zb rfl (by exact bf (aA (by omega) (by omega))) ?_))
 refine au.any rfl rfl rfl (OpR.invoke rfl rfl rfl hm rfl (lQ (n:=1) J (by decide) (by omega) s)) ?_
 rintro v h (⟨aj,rfl,hd,s⟩|⟨w,aj,rfl,I,hs,s⟩)
 ·skip
  refine zk 9 rfl (zB rfl aD (by decide) ?_)
  exact zk 9 rfl (WP.ret ⟨aa,_,rfl,.inl ⟨aj,rfl,s,hd⟩⟩)
 refine zk 9 rfl (zC rfl aD (rfl) (zk 6 rfl (zc rfl (Jx (i:=0) hT s (aN _ _) hp rfl) ?_)))
 rintro v h ⟨u,rfl,s⟩
 refine zk 10 rfl (zC rfl aD (rfl) (zk 2 rfl (zo rfl (aP rfl rfl rfl (aW aJ (s.aG (k:=0) rfl (aN _ _)))) ?_)))
 rw[hM]
 refine zC rfl aD (by decide) ?_
 exact zk 12 rfl (WP.ret ⟨aa,_,rfl,.inr ⟨w,u,aj,rfl,I,hs,s⟩⟩)
theorem MJ (J:W told)(hR:Eh told N B rv A pg)(mS:EI N B ε)(hN:1≤N)(hp:eD (pg ε 0) 201 n extra [gj,R])(Ei:R.length=64){i:Int}(hi0 : -1≤i)(kA:i≤16)(s:Sat h (A ε::S)):
  Call ⟨Tryz.prog,told⟩ 140 [rv,.int .i64 i] h fun v h'=>∃aj,v=(if 0≤i∧i<16 then .aQ [.int .i64 (dF R (4*i.toNat) 4:Nat),.int .i64 0] else .aQ [.int .i64 0,.int .i64 1])∧EI N B aj∧Sm N ε aj∧Sat h' (A aj::S):=by
 refine Call.of_wp (J.free _ rfl) Tryz.func140 rfl rfl (zK 8 rfl (zc rfl (XN J hR mS hN hp Ei s) ?_))
 rintro v h ⟨u,aj,rfl,I,hs,s⟩
 refine zk 9 rfl (WP.block (zK 3 rfl (zC rfl aD (rfl) (zk 6 rfl ?_))))
 by_cases h0:i<0
 ·skip
  refine zB rfl aT (by grind) ?_
  exact zk 12 rfl (WP.ret ⟨aa,_,rfl,aj,by grind,I,hs,s.drop⟩)
 ·skip
  refine zC rfl aT (by grind) ?_
  refine zk 2 rfl ?_
  by_cases h1:16≤i
  ·skip
   refine zB rfl jg (by grind) ?_
   exact zk 9 rfl (WP.ret ⟨aa,_,rfl,aj,by grind,I,hs,s.drop⟩)
  ·skip
   refine zC rfl jg (by grind) ?_
   refine zk 2 rfl (zv (zj rfl (WP.skip (zg rfl (zk 2 rfl (zb rfl (by exact jf (aA (by omega) (by omega))) ?_))))))
   refine zm rfl (zb rfl (by exact bf (aA (by omega) (by omega))) ?_)
   refine zb rfl (by exact jf (aA (by omega) (by omega))) ?_
   obtain⟨k,rfl⟩:∃k:Nat,i=k:=⟨i.toNat,by omega⟩
   have hv:=(s.buf (k:=0) rfl).view
   have q1:(4*(k:Int)).toNat=4*k:=by omega
   have q2:(4*((k:Int)+1)).toNat=4*k+4:=by omega
   refine zo rfl (bU (p:=some (.int .i64 (4*(k:Int)))) (q:=some (.int .i64 (4*((k:Int)+1)))) (m:=none) (p':=some (4*k)) (q':=some (4*k+4)) (m':=none) rfl rfl rfl rfl (by rfl) (by rfl) rfl (dc hv (by omega) (by omega)).1) ?_
   refine zc rfl (mz J s (k:=0) rfl (jJ (aN _ _) (a:=4*k) (b:=4*k+4) (by omega) (by omega)) (by grind)) ?_
   rintro v h' ⟨rfl,rfl⟩
   have cH:=An (a:=4*k) (z:=4) hv.1
   have ea:leN ((R.take (4*k+4)).drop (4*k))=dF R (4*k) 4:=rfl
   rw[ea]
   refine zo rfl (bT rfl (by exact gL bR br (aA (by omega) (by omega)))) ?_
   exact zk 3 rfl (WP.ret ⟨aa,_,rfl,aj,by grind,I,hs,s.drop⟩)
end
def bt (M:List Nat)(i:Nat): Bool:=(M.getD (i/8) 0).testBit (i%8)
def Ej (M:List Nat)(i:Nat): List Nat:=M.set (i/8) (Nat.lor (M.getD (i/8) 0) (2^(i%8)))
def Q3 (M:List Nat)(i:Nat): List Nat:=M.set (i/8) (Nat.land (M.getD (i/8) 0) (255-2^(i%8)))
theorem JA {b:Nat}(hi:i<M.length): (M.set i b).getD j 0=if i=j then b else M.getD j 0:=by
 grind
theorem abI (hi:i/8<M.length): bt (Ej M i) j=if j=i then true else bt M j:=by
 unfold bt Ej
 rw[JA hi]
 by_cases h:i/8=j/8
 ·rw[aC h,show Nat.lor (M.getD (i/8) 0) (2^(i%8))=(M.getD (i/8) 0) ||| (2^(i%8)) from rfl,Nat.testBit_or,Nat.testBit_two_pow,h]
  grind
 ·grind
theorem abJ (hi:i/8<M.length): bt (Q3 M i) j=if j=i then false else bt M j:=by
 unfold bt Q3
 rw[JA hi]
 by_cases h:i/8=j/8
 ·have e:255-2^(i%8)=2^8-(2^(i%8)+1):=by omega
  have I:2^(i%8)<2^8:=v_ (by decide) (by omega)
  rw[aC h,show Nat.land (M.getD (i/8) 0) (255-2^(i%8))=(M.getD (i/8) 0) &&& (255-2^(i%8)) from rfl,Nat.testBit_and,e,Nat.testBit_two_pow_sub_succ I,Nat.testBit_two_pow,h]
  grind
 ·grind
theorem MK : (Ej M i).length=M.length:=dg
theorem ML : (Q3 M i).length=M.length:=dg
theorem Q4 (I:a<256)(J:k<8): Nat.lor a (2^k)<256:=Nat.or_lt_two_pow (n:=8) I (v_ (by decide) J)
theorem MM {c:Nat}(I:a<256): Nat.land a c<256:=Nat.lt_of_le_of_lt Nat.and_le_left I
def nh (x:Nat): Nat:=((List.range 8).filter fun i => !x.testBit i).headD 8
theorem XO : ∀x,x<255→nh x<8∧x.testBit (nh x)=false∧∀j,j<nh x→x.testBit j=true:=by
 have:∀x,x<255→(decide (nh x<8)&&(!x.testBit (nh x)&&(List.range (nh x)).all fun j=>x.testBit j))=true:=by decide +kernel
 grind
theorem ac2 : ∀x,x<256→(∀j,j<8→x.testBit j=true)→x=255:=by
 have:∀x,x<256→((List.range 8).all fun j=>x.testBit j)=true→x=255:=by decide +kernel
 grind
theorem HU (I:j<8): bt M (8*k+j)=(M.getD k 0).testBit j:=by
 grind[bt]
section
variable {x:Operand} {b:Nat}
theorem aaa (I:k<8): binV P h .shl t x y (.int .u8 1) (.int .i64 (k:Int))=some (.int .u8 ((2^k:Nat):Int)):=by
 have J:2^k<256:=v_ (a:=2) (n:=8) (by decide) I
 simp only[binV,shiftV,IntKind.bits,cL]
 grind[uC]
theorem FU {op:BinOp}{f:Nat→Nat→Nat}(I:a<256)(J:b<256)(hf:f a b<256)(he:bitsV op .u8 (a:Int) (b:Int)=some (.int .u8 (IntKind.u8.wrap (f ((a:Int)%(2^(IntKind.u8).bits:Int)).toNat ((b:Int)%(2^(IntKind.u8).bits:Int)).toNat:Nat)))):
  bitsV op .u8 (a:Int) (b:Int)=some (.int .u8 ((f a b:Nat):Int)):=by
 grind[IntKind.bits,uC]
theorem abK (I:a<256)(J:k<8): binV P h .or t x y (.int .u8 (a:Int)) (.int .u8 ((2^k:Nat):Int))=some (.int .u8 ((Nat.lor a (2^k):Nat):Int)):=by
 simp only[binV,ikBeq,ah,intV]
 exact FU (f:=Nat.lor) I (v_ (a:=2) (n:=8) (by decide) J) (Q4 I J) rfl
theorem Q5 (I:a<256)(J:b<256): binV P h .andNot t x y (.int .u8 (a:Int)) (.int .u8 (b:Int))=some (.int .u8 ((Nat.land a (255-b):Nat):Int)):=by
 simp only[binV,ikBeq,ah,intV]
 exact FU (f:=fun a b=>Nat.land a (255-b)) I J (MM I) rfl
theorem Q6 (I:a<256): unV .xor (.int .u8 (a:Int))=some (.int .u8 ((255-a:Nat):Int)):=by
 have:∀a,a<256→Nat.xor 255 a=255-a:=by decide +kernel
 have e:bitsV .xor .u8 ((255:Nat):Int) (a:Int)=some (.int .u8 ((Nat.xor 255 a:Nat):Int)):=FU (f:=Nat.xor) (by decide) I (by grind) rfl
 rw[this a I] at e
 exact e
theorem aab {f:Nat→Nat}{L:List Nat}(hu:P.underlying t=some .string)(I:∀x,x<256→nth L x=some (f x))(J:a<256): indexV P t (.str L) (.int .u8 (a:Int))=some (.int .u8 ((f a:Nat):Int)):=by
 simp_all[indexV]
end
section
variable {told:cJ} {n:Nat} {v y:V} {kd:Nat} {pg:bA→Int→List Nat}
theorem Q7 (I:W told)(J:a<256): Call ⟨Tryz.prog,told⟩ 223 [.int .u8 ((255-a:Nat):Int)] h fun r h'=>r=.int .i64 (nh a:Nat)∧h'=h:=by
 have hle:∀a,a<256→nh a≤8:=by decide +kernel
 have hle:=hle a J
 have he:nh (255-(255-a))=nh a:=by rw[show 255-(255-a)=a by omega]
 refine Call.of_wp (I.free _ rfl) Tryz.func223 rfl rfl (zK 7 rfl (zo rfl (xP rfl rfl (aab (f:=fun x=>nh (255-x)) uG (by decide +kernel) (by omega))) ?_))
 rw[he]
 refine zo rfl (bT rfl (by exact gL Tryz.underlying5 br (aA (by omega) (by omega)))) ?_
 exact zk 2 rfl (WP.ret ⟨aa,_,rfl,rfl,rfl⟩)
noncomputable def lwL : Code:=cU [1,1,1,0,1,0,0,1,1,0,0,1,1,1,1,0,0] ((Tryz.f205.body).getD .skip)
theorem T4 (hT:W told)(hv:View h u M)(hM:M.length=375)(hn:n≤3000)(vB:lo<n)(h0:bt M lo=false)(h1:∀j,j<lo→bt M j=true): ∀(m k:Nat) (E:List (Nat×V)) (Q:Ex→List (Nat×V)→H→Prop),k+m=lo/8 →
  Has E [(5,.int .i64 (n:Int)),(7,.int .i64 0),(39,u),(40,.int .i64 375),(41,.int .i64 (k:Int))] →
  (∀E',look E' 2=some (.int .i64 (lo:Int))→look E' 3=some (.int .i64 0)→Q .ret E' h)→WP ⟨Tryz.prog,told⟩ 65 (.loop lwL) E h Q:=by
 intro m
 induction m with
 |zero =>
  intro k E Q hk hE hq
  have J:M[k]?=some (M[k]'(by omega)):=bw _
  have I:M.getD k 0=M[k]'(by omega):=by rw[nU,J];rfl
  generalize (M[k]'(by omega))=x at J I
  have hx:x<256:=hv.1 x (bK J)
  obtain⟨id,off,e1,e2⟩:=fg hv J
  have Gm:x≠255:=fun e=>by
   have:=HU (M:=M) (k:=k) (j:=lo%8) (by omega)
   rw[show 8*k+lo%8=lo by omega,h0,I,e] at this
   have q:∀j,j<8→(255:Nat).testBit j=true:=by decide
   rw[q _ (by omega)] at this;cases this
  obtain⟨w1,w2,w3⟩:=XO x (by omega)
  have hl:8*k+nh x=lo:=by
   have a1:=HU (M:=M) (k:=k) (j:=nh x) w1
   rw[I,w2] at a1
   rcases tN (8*k+nh x) lo with q|q
   ·rw[h1 _ q] at a1;cases a1
   ·by_cases q2:lo%8<nh x
    ·have:=w3 _ q2
     have a2:=HU (M:=M) (k:=k) (j:=lo%8) (by omega)
     rw[show 8*k+lo%8=lo by omega,h0,I,this] at a2;cases a2
    ·omega
  refine WP.loop (WP.has hE (zg rfl (zB rfl aT (by simp;omega) ?_)))
  refine zk 5 rfl (WP.block (zK 3 rfl (zo rfl (c8 (r:=.ptr id off) rfl rfl e1) (zl rfl e2 (zk 6 rfl (zb rfl (by exact jf (aA (by omega) (by omega))) ?_))))))
  refine zm rfl (zb rfl (by exact jf (aA (by omega) (by omega))) ?_)
  refine zb rfl (by exact bf (aA (by omega) (by omega))) ?_
  refine zm rfl (zo rfl (eU rfl (Q6 hx)) (zc rfl (Q7 hT hx) ?_))
  rintro v h' ⟨rfl,rfl⟩
  refine zo rfl (ay (r:=.int .i64 (lo:Int)) rfl rfl (by rw[←hl,show(((8*k+nh x:Nat):Int))=(3000*0+8*(k:Int))+(nh x:Int) by omega];exact bf (aA (by omega) (by omega)))) ?_
  refine zk 5 rfl (zB rfl aD (by simp;omega) ?_)
  refine zk 3 rfl (zB rfl aT (by simp;omega) ?_)
  exact zk 9 rfl (WP.ret (hq _ rfl rfl))
 |succ m ih =>
  intro k E Q hk hE hq
  have J:M[k]?=some (M[k]'(by omega)):=bw _
  have I:M.getD k 0=M[k]'(by omega):=by rw[nU,J];rfl
  generalize (M[k]'(by omega))=x at J I
  have hx:x<256:=hv.1 x (bK J)
  obtain⟨id,off,e1,e2⟩:=fg hv J
  have Gm:x=255:=ac2 x hx fun j hj=>by rw[←I,←HU hj];exact h1 _ (by omega)
  have hl8:∀a,a<256→nh a≤8:=by decide +kernel
  have hl8:=hl8 x hx
  refine WP.loop (WP.has hE (zg rfl (zB rfl aT (by simp;omega) ?_)))
  refine zk 5 rfl (WP.block (zK 3 rfl (zo rfl (c8 (r:=.ptr id off) rfl rfl e1) (zl rfl e2 (zk 6 rfl (zb rfl (by exact jf (aA (by omega) (by omega))) ?_))))))
  refine zm rfl (zb rfl (by exact jf (aA (by omega) (by omega))) ?_)
  refine zb rfl (by exact bf (aA (by omega) (by omega))) ?_
  refine zm rfl (zo rfl (eU rfl (Q6 hx)) (zc rfl (Q7 hT hx) ?_))
  rintro v h' ⟨rfl,rfl⟩
  refine zb rfl (by exact bf (aA (by omega) (by omega))) ?_
  refine zk 5 rfl (zC rfl aD (by simp;omega) ?_)
  refine zk 5 rfl (zv (zj rfl (WP.skip (zr rfl (zb rfl (by exact bf (aA (by omega) (by omega))) ?_)))))
  refine zm rfl (zv ?_)
  exact ih (k+1) _ Q (by omega) ⟨rfl,rfl,rfl,rfl,rfl,aa⟩ hq
end
section
variable {x:Operand} {n:Nat}
theorem T5 (I:n<3000): binV P h .quo t x y (.int .i64 (n:Int)) (.int .i64 3000)=some (.int .i64 0):=by
 have:=HT (P:=P) (h:=h) (t:=t) (x:=x) (y:=y) (a:=n) (b:=3000) (by decide) (by omega)
 rw[show n/3000=0 by omega] at this;exact this
theorem aac (I:n<3000): binV P h .rem t x y (.int .i64 (n:Int)) (.int .i64 3000)=some (.int .i64 (n:Int)):=by
 have:=I8 (P:=P) (h:=h) (t:=t) (x:=x) (y:=y) (a:=n) (b:=3000) (by decide)
 rw[show n%3000=n by omega] at this;exact this
end
section
variable {told:cJ} {n:Nat} {v y:V} {kd:Nat} {pg:bA→Int→List Nat} {sm:bA→bA→Prop}
structure kB (n:Nat)(R M:List Nat)(p:Int→List Nat): Prop where
 head:∃ex,eD (p 0) 201 n ex [gj,R]
 rl:R.length=64
 marks:∃kd lk ex,eD (p 1) kd lk ex [M]
 ml:M.length=375
 n1:2≤n
 n2:n≤2999
 own:∀j,j<2→bt M j=true
 hi:∀j,n≤j→bt M j=false
theorem T6 (hT:W told)(hR:MH told N lv dd sm rv A pg)(mS:lv ε)(hN:2≤N)(hp:kB n R M (pg ε))(vB:lo<n)(h0:bt M lo=false)(h1:∀j,j<lo→bt M j=true)(s:Sat h (A ε::S)):
  Call ⟨Tryz.prog,told⟩ 205 [rv] h fun v h'=>(∃aj,v=.aQ [.int .i64 0,.int .i64 9]∧Sat h' (A aj::S)∧dd aj)∨∃aj,v=.aQ [.int .i64 (lo:Int),.int .i64 0]∧lv aj∧sm ε aj∧Sat h' (A aj::S):=by
 obtain⟨ex,uw⟩:=hp.head
 obtain⟨kd,lk,su,I⟩:=hp.marks
 have hM:=hp.ml
 have yS:=hp.n2
 refine Call.of_wp (hT.free _ rfl) Tryz.func205 rfl rfl (zK 8 rfl (zc rfl (Jz hT hR mS (by omega) uw hp.rl s) ?_))
 rintro v h (⟨J,rfl,s,hd⟩|⟨u,J,rfl,oB,g_,s⟩)
 ·skip
  refine zk 12 rfl (zB rfl aD (by decide) ?_)
  exact zk 8 rfl (WP.ret ⟨aa,_,rfl,.inl ⟨J,rfl,s,hd⟩⟩)
 refine zk 12 rfl (zC rfl aD (rfl) (zk 7 rfl (zc rfl (Q2 hT (by omega) (by omega)) ?_)))
 rintro v h' ⟨rfl,rfl⟩
 refine zb rfl (by exact jI (aA (by omega) (by omega))) ?_
 refine zk 2 rfl (WP.block (WP.loop (zg rfl (zB rfl aT (by decide) ?_))))
 have I:eD (pg J 1) kd lk su [M]:=by rw[hR.same g_];exact I
 refine zk 5 rfl (WP.block (zK 9 rfl (zc rfl (MI hT hR oB hN I hM (s.ae [1])) ?_)))
 rintro v h (⟨ki,rfl,s,hd⟩|⟨w2,u2,ki,rfl,uX,qU,s⟩)
 ·skip
  refine zk 12 rfl (zB rfl aD (by decide) ?_)
  exact zk 8 rfl (WP.ret ⟨aa,_,rfl,.inl ⟨ki,rfl,s.del 1,hd⟩⟩)
 refine zk 12 rfl (zC rfl aD (rfl) (zk 6 rfl (zo rfl (aP rfl rfl rfl (aW aJ (s.aG (k:=0) rfl (aN _ _)))) ?_)))
 rw[hM]
 refine zk 2 rfl (WP.block ?_)
 refine T4 hT (s.buf (k:=0) rfl).view hM (by omega) vB h0 h1 (lo/8) 0 _ _ (by omega) ⟨rfl,rfl,rfl,rfl,rfl,aa⟩ (fun E' l2 l3=>⟨aa,_,sU l2 l3,.inr ⟨ki,rfl,uX,hR.tr g_ qU,?_⟩⟩)
 exact((s.ae [2]).del 3 |>.del 2).del 1
end
def SA (a p q r:Nat)(op:V)(data:List Nat)(aH:Nat)(ε:bA): aI:=star [dA a p q r op data aH,eo r p q ε.1,bS q p ε.2.1,aO p ε.2.2]
def GA (g a p q r:Nat)(data:List Nat)(aH:Nat)(now:List (Int×List Nat))(ε:bA): aI:=star [eW g a now false,dA a p q r (.ptr g 0) data aH,eo r p q ε.1,bS q p ε.2.1,aO p ε.2.2]
def pgG (now:List (Int×List Nat))(ε:bA)(n:Int): List Nat:=match lookL n now with
 |some b=>b
 |none=>pgA ε n
theorem Ek (h:Sm N ε aj): pgG now aj=pgG now ε:=by
 funext n
 unfold pgG
 rw[h.1]
theorem iG {i:Int}: pgG (b8 i b now) ε n=if i=n then b else pgG now ε n:=by
 grind[pgG,fH]
section
variable {told:cJ} {n p:Nat} {v y op:V} {kd:Nat} {sm:bA→bA→Prop}
theorem Oj (hT:W told)(hB:B≤2000): Eh told N B (.iface 26 (.ptr a 0)) (SA a p q r op data aH) pgA:=by
 refine⟨⟨_,_,_,rfl,XF,fun {h S ε n} I h0 h1 s => ?_⟩,fun hs=>hs.1⟩
 have uW:=I.b6
 have Q8:=pz (ε:=ε)
 have s:=aM.1 s
 refine(yc hT (n:=n) s I.ok.ok I.ok.pins (by omega)).mono ?_
 rintro v h ⟨e,b,aj,J,hs⟩
 obtain⟨k1,k2,k3,k4⟩:=J.ec I.ec I.ok.pins
 obtain⟨rfl,rfl⟩:=k3 h0 h1
 rcases hs with⟨he,_⟩|⟨_,u,rfl,s⟩
 ·omega
 ·have s2:Sat h (SA a p q r op data aH aj::aZ u (pgA ε n)::S):=aM.2 (s.ae [1,1,1,1,0])
  exact⟨u,aj,rfl,I.rd J,⟨k2,fun P hP hv=>hP.rd J I.ec hv,J.b6⟩,s2.ae [1]⟩
theorem aad (hT:W told)(hB:B≤2000)(hw:NW N now): Eh told N B (.iface 78 (.ptr g 0)) (GA g a p q r data aH now) (pgG now):=by
 refine⟨⟨_,_,_,rfl,FP,fun {h S ε n} I h0 h1 s => ?_⟩,fun hs m=>by rw[Ek hs]⟩
 have uW:=I.b6
 have Q8:=pz (ε:=ε)
 have s:=aM.1 s
 refine(Ji hT (n:=n) s I.ok (by omega) (fun e he=>fb (hw.good e he).1)).mono ?_
 rintro v h ⟨e,b,aj,J,hs⟩
 obtain⟨k1,k2,k3,k4⟩:=J.ec I.ec I.ok.pins
 obtain⟨rfl,hb⟩:=k3 h0 h1
 have hb:b=pgG now ε n:=hb
 subst hb
 rcases hs with⟨he,_⟩|⟨_,u,rfl,s⟩
 ·omega
 ·have s2:Sat h (GA g a p q r data aH now aj::aZ u (pgG now ε n)::S):=aM.2 (s.ae [1,1,1,1,1,0])
  exact⟨u,aj,rfl,I.Az J,⟨k2,fun P hP hv=>hP.Az J I.ec hv,J.b6⟩,s2.ae [1]⟩
theorem BO (hT:W told)(hB:B≤2000)(I:EI N B ε)(hw:NW N now)(hi:i<N)(s:Sat h (GA g a p q r data aH now ε::X::S))(hX:cN X (cP x b))(hp:eD b kd link extra cs):
  Call ⟨Tryz.prog,told⟩ 40 [.ptr g 0,.int .i64 (i:Int),x] h fun v h'=>∃aj,v=.int .i64 0∧EI N B aj∧Sm N ε aj∧NW N (b8 (i:Int) b now)∧Sat h' (GA g a p q r data aH (b8 (i:Int) b now) aj::X::S):=by
 have uW:=I.b6
 have Q8:=pz (ε:=ε)
 have hlen:=hp.len
 have hb:=(s.aG (k:=1) rfl hX).1
 have s:=aM.1 s
 refine(QG hT (n:=(i:Int)) s hX (by omega) I.ok (by omega) (fun e he=>fb (hw.good e he).1)).mono ?_
 rintro v h ⟨e,dM,aj,J,rfl,s⟩
 obtain⟨k1,k2,k3,k4,k5⟩:=J.ec I.ec I.ok.pins
 obtain⟨rfl,rfl⟩:=k5 (by omega) (by omega) hp.good
 exact⟨aj,rfl,I.QL J,⟨k2,fun P hP hv=>hP.QL J I.ec hv,J.b6⟩,hw.put (by omega) (by omega) hp.good hb,aM.2 s⟩
structure Mo (told:cJ)(N:Nat)(lv dd:bA→Prop)(sm:bA→bA→Prop): Prop where
 rf:∀a:bA,sm a a
 tr:∀ {a b c:bA},sm a b→sm b c→sm a c
 pg:∀ {a b:bA},sm a b→∀m,pgA b m=pgA a m
 gr:∀ {g a p q r aH:Nat} {data:List Nat} {now:List (Int×List Nat)},NW N now→MH told N lv dd sm (.iface 78 (.ptr g 0)) (GA g a p q r data aH now) (pgG now)
 gw:∀ {h:H} {S:List aI} {X:aI} {g a p q r aH i kd link extra:Nat} {data b:List Nat} {now:List (Int×List Nat)} {x:V} {cs:List (List Nat)} {ε:bA},lv ε→NW N now→i<N→Sat h (GA g a p q r data aH now ε::X::S)→cN X (cP x b)→eD b kd link extra cs →
  Call ⟨Tryz.prog,told⟩ 40 [.ptr g 0,.int .i64 (i:Int),x] h fun v h'=>(∃aj,v=.int .i64 9∧Sat h' (GA g a p q r data aH now aj::X::S)∧dd aj)∨∃aj,v=.int .i64 0∧lv aj∧sm ε aj∧NW N (b8 (i:Int) b now)∧Sat h' (GA g a p q r data aH (b8 (i:Int) b now) aj::X::S)
 dr:∀ {h:H} {S:List aI} {g a p q r aH:Nat} {data:List Nat} {now:List (Int×List Nat)} {ε:bA} {n:Int},dd ε→NW N now→Sat h (GA g a p q r data aH now ε::S) →
  Call ⟨Tryz.prog,told⟩ 207 [.ptr g 0,.int .i64 n] h fun v h'=>∃(w:V) (e:Int) (aj:bA),v=.aQ [w,.int .i64 e]∧dd aj∧Sat h' (GA g a p q r data aH now aj::S)
theorem Mo.live (J:W told)(hB:B≤2000): Mo told N (EI N B) noD (Sm N) :=
 ⟨Sm.refl N,Sm.trans,fun h=>h.1,fun hw=>(aad J hB hw).m,fun I hw hi s hX hp=>(BO J hB I hw hi s hX hp).mono fun _ _ k=>.inr k,fun hd=>hd.elim⟩
theorem Mo.pgG (I:Mo told N lv dd sm)(h:sm ε aj): Am.pgG now aj=Am.pgG now ε:=by
 funext n
 unfold Am.pgG
 rw[I.pg h]
def DdG (N g a p q r:Nat)(data:List Nat)(aH:Nat)(dd:bA→Prop)(S:List aI)(h:H): Prop:=∃(ε:bA) (now:List (Int×List Nat)),NW N now∧Sat h (GA g a p q r data aH now ε::S)∧dd ε
theorem kB.put {P:Int→List Nat}(h:kB N R M P){I:List Nat}{J:Int→List Nat}(h0:J 0=P 0)(h1:∃kd lk ex,eD (J 1) kd lk ex [I])(hl:I.length=375)(ho:∀j,j<2→bt I j=true)(hh:∀j,N≤j→bt I j=false): kB N R I J :=
 ⟨by rw[h0];exact h.head,h.rl,h1,hl,h.n1,h.n2,ho,hh⟩
theorem pG {i:Int}: ∀ {now:List (Int×List Nat)},(b8 i b now).length≤now.length+1:=by
 intro now
 induction now<;>grind[b8]
set_option maxHeartbeats 1000000 in
theorem aae (hT:W told)(hM:Mo told N lv dd sm)(mS:lv ε)(hw:NW N now)(hp:kB N R M (pgG now ε))(hi:i<N)(jE:2≤i){bl:Bool}(s:Sat h (GA g a p q r data aH now ε::S)):
  Call ⟨Tryz.prog,told⟩ 206 [.ptr g 0,.int .i64 (i:Int),.bool bl] h fun v h'=>(v=.int .i64 9∧DdG N g a p q r data aH dd S h')∨∃aj dM,v=.int .i64 0∧lv aj∧sm ε aj∧NW N dM∧dM.length≤now.length+1∧kB N R (if bl then Ej M i else Q3 M i) (pgG dM aj)∧(∀m,m≠1→pgG dM aj m=pgG now ε m) ∧
   Sat h' (GA g a p q r data aH dM aj::S):=by
 obtain⟨kd,lk,su,JB⟩:=hp.marks
 have hMl:=hp.ml
 have yS:=hp.n2
 have hi8:i/8<M.length:=by omega
 have hb:M[i/8]?=some (M[i/8]'(by omega)):=bw _
 have vp:M.getD (i/8) 0=M[i/8]'(by omega):=by grind
 generalize (M[i/8]'(by omega))=z at hb vp
 -- what is so behind it
 have fin:∀ {aj:bA} {b':List Nat} {M':List Nat},sm ε aj→eD b' kd lk su [M']→M'.length=375→(∀j,bt M' j=if j=i then bl else bt M j)→kB N R M' (pgG (b8 1 b' now) aj)∧(∀m,m≠1→pgG (b8 1 b' now) aj m=pgG now ε m):=fun {aj b' M'} hs I hl MN =>
  ⟨hp.put (by rw[iG,ak (by decide),hM.pgG hs]) ⟨_,_,_,by rw[iG,aC rfl];exact I⟩ hl (fun j hj=>by rw[MN,ak (by omega)];exact hp.own j hj) (fun j hj=>by rw[MN,ak (by omega)];exact hp.hi j hj),
   fun m hm=>by rw[iG,ak (by omega),hM.pgG hs]⟩
 refine Call.of_wp (hT.free _ rfl) Tryz.func206 rfl rfl (zK 7 rfl (zo rfl (rU rfl (mki_of qG rfl)) (zm rfl (zo rfl (ay (r:=.int .i64 0) rfl rfl (T5 (by omega))) ?_))))
 refine zc rfl (MI hT (hM.gr hw) mS (by omega) JB hMl s) ?_
 rintro v h (⟨ki,rfl,s,hd⟩|⟨w2,u2,ki,rfl,uX,qU,s⟩)
 ·skip
  refine zk 12 rfl (zB rfl aD (by decide) ?_)
  exact zk 7 rfl (WP.ret ⟨aa,_,rfl,.inl ⟨rfl,ki,now,hw,s,hd⟩⟩)
 have hv:=(s.buf (k:=0) rfl).view
 have hz:z<256:=hv.1 z (bK hb)
 have h2k:2^(i%8)<256:=v_ (a:=2) (n:=8) (by decide) (by omega)
 obtain⟨id,off,e1,e2⟩:=fg hv hb
 refine zk 12 rfl (zC rfl aD (rfl) (zk 6 rfl (zb rfl (aac (by omega)) ?_)))
 refine zb rfl (I8 (a:=i) (b:=8) (by decide)) ?_
 refine zb rfl (aaa (k:=i%8) (by omega)) ?_
 refine zk 6 rfl (zb rfl (aac (by omega)) ?_)
 refine zb rfl (HT (a:=i) (b:=8) (by decide) (by omega)) ?_
 refine zk 6 rfl ?_
 cases bl with
 |true =>
  obtain⟨Q9,JC,e3,h4,e4,s2⟩:=oR s (i:=i/8) (b:=Nat.lor z (2^(i%8))) (by omega) (Q4 hz (by omega))
  have ee:V.ptr id off=V.ptr Q9 JC:=by grind
  rw[←ee] at e4
  refine zK 4 rfl (zo rfl (c8 (r:=.ptr id off) rfl rfl e1) (zl rfl e2 (zm rfl (zb rfl (abK hz (by omega)) ?_))))
  refine zo rfl (c8 (r:=.ptr id off) rfl rfl e1) (zS rfl (⟨h4,e4,s2⟩) ?_)
  rintro h s
  rw[←vp] at s
  have s:Sat h (aZ u2 (Ej M i)::_):=s
  refine zk 6 rfl (zc rfl (BN (i:=0) (c:=M) hT (s.ae [1,0]) (aN _ _) (aN _ _) JB rfl MK) ?_)
  rintro v h ⟨w3,b',rfl,I,s⟩
  refine zk 9 rfl (zC rfl aD (rfl) (zk 7 rfl (zo rfl (ay (r:=.int .i64 0) rfl rfl (T5 (by omega))) ?_)))
  refine zb rfl (by exact bf (aA (by omega) (by omega))) ?_
  refine zm rfl (zc rfl (hM.gw (i:=1) uX hw (by omega) (s.ae [3,0]) (aN _ _) I) ?_)
  rintro v h (⟨J,rfl,s,hd⟩|⟨J,rfl,sY,nQ,qn,s⟩)
  ·skip
   exact zk 2 rfl (WP.ret ⟨aa,_,rfl,.inl ⟨rfl,J,now,hw,((s.ae [0]).del 3 |>.del 2).del 1,hd⟩⟩)
  refine zk 2 rfl (WP.ret ⟨aa,_,rfl,?_⟩)
  obtain⟨f1,f2⟩:=fin (hM.tr qU nQ) I (by rw[MK];exact hMl) (fun j=>abI hi8)
  exact .inr ⟨J,_,rfl,sY,hM.tr qU nQ,qn,pG,f1,f2,((s.ae [0]).del 3 |>.del 2).del 1⟩
 |false =>
  obtain⟨Q9,JC,e3,h4,e4,s2⟩:=oR s (i:=i/8) (b:=Nat.land z (255-2^(i%8))) (by omega) (MM hz)
  have ee:V.ptr id off=V.ptr Q9 JC:=by grind
  rw[←ee] at e4
  refine zK 4 rfl (zo rfl (c8 (r:=.ptr id off) rfl rfl e1) (zl rfl e2 (zm rfl (zb rfl (Q5 hz h2k) (zo rfl (c8 (r:=.ptr id off) rfl rfl e1) (zS rfl (⟨h4,e4,s2⟩) ?_))))))
  rintro h s
  rw[←vp] at s
  have s:Sat h (aZ u2 (Q3 M i)::_):=s
  refine zk 6 rfl (zc rfl (BN (i:=0) (c:=M) hT (s.ae [1,0]) (aN _ _) (aN _ _) JB rfl ML) ?_)
  rintro v h ⟨w3,b',rfl,I,s⟩
  refine zk 9 rfl (zC rfl aD (rfl) (zk 7 rfl (zo rfl (ay (r:=.int .i64 0) rfl rfl (T5 (by omega))) ?_)))
  refine zb rfl (by exact bf (aA (by omega) (by omega))) ?_
  refine zm rfl (zc rfl (hM.gw (i:=1) uX hw (by omega) (s.ae [3,0]) (aN _ _) I) ?_)
  rintro v h (⟨J,rfl,s,hd⟩|⟨J,rfl,sY,nQ,qn,s⟩)
  ·skip
   exact zk 2 rfl (WP.ret ⟨aa,_,rfl,.inl ⟨rfl,J,now,hw,((s.ae [0]).del 3 |>.del 2).del 1,hd⟩⟩)
  refine zk 2 rfl (WP.ret ⟨aa,_,rfl,?_⟩)
  obtain⟨f1,f2⟩:=fin (hM.tr qU nQ) I (by rw[ML];exact hMl) (fun j=>abJ hi8)
  exact .inr ⟨J,_,rfl,sY,hM.tr qU nQ,qn,pG,f1,f2,((s.ae [0]).del 3 |>.del 2).del 1⟩
theorem XP (hT:W told)(J:Mo told N lv dd sm)(mS:lv ε)(hw:NW N now)(hp:kB N R M (pgG now ε))(vB:lo<N)(h0:bt M lo=false)(h1:∀j,j<lo→bt M j=true)(s:Sat h (GA g a p q r data aH now ε::S)):
  Call ⟨Tryz.prog,told⟩ 150 [.ptr g 0] h fun v h'=>(v=.aQ [.int .i64 0,.int .i64 9]∧DdG N g a p q r data aH dd S h')∨∃aj dM,v=.aQ [.int .i64 (lo:Int),.int .i64 0]∧lv aj∧sm ε aj∧NW N dM∧dM.length≤now.length+2∧kB N R (Ej M lo) (pgG dM aj)∧(∀m,m≠1→m≠(lo:Int)→pgG dM aj m=pgG now ε m)∧eD (pgG dM aj lo) 0 0 0 []∧pgG dM aj lo=nP 0 ∧
   Sat h' (GA g a p q r data aH dM aj::S):=by
 have vo:=hp.n1
 have h2:2≤lo:=by
  rcases tN lo 2 with hq|hq
  ·rw[hp.own lo hq] at h0;cases h0
  ·exact hq
 refine Call.of_wp (hT.free _ rfl) Tryz.func150 rfl rfl (zK 8 rfl (zo rfl (rU rfl (mki_of qG rfl)) (zc rfl (T6 hT (J.gr hw) mS (by omega) hp vB h0 h1 s) ?_)))
 rintro v h (⟨qP,rfl,s,hd⟩|⟨qP,rfl,oB,g_,s⟩)
 ·skip
  refine zk 7 rfl (WP.block (zK 3 rfl (zB rfl aD (by decide) ?_)))
  exact zk 9 rfl (WP.ret ⟨aa,_,rfl,.inl ⟨rfl,qP,now,hw,s,hd⟩⟩)
 have JB:kB N R M (pgG now qP):=by rw[J.pgG g_];exact hp
 refine zk 7 rfl (WP.block (zK 3 rfl (zC rfl aD (rfl) (zk 6 rfl (zC rfl aT (by simp) ?_)))))
 refine za rfl (zv (zj rfl (WP.skip (zw (zg rfl (zk 2 rfl (zc rfl (aae (bl:=true) hT J oB hw JB vB h2 s) ?_)))))))
 rintro v h (⟨rfl,hd⟩|⟨ki,aaf,rfl,uX,qU,uY,gE,I,GN,s⟩)
 ·skip
  refine zk 5 rfl (zB rfl aD (by decide) ?_)
  exact zk 8 rfl (WP.ret ⟨aa,_,rfl,.inl ⟨rfl,hd⟩⟩)
 refine za rfl (zv (zg rfl (zm rfl (zh rfl (ay rfl rfl aD) (rfl) (zv (zj rfl (WP.skip (zg rfl (zc rfl (AG (kd:=0) hT s (by decide)) ?_)))))))))
 rintro v h ⟨u,rfl,s⟩
 have pQ:eD (nP 0) 0 0 0 []:=eD.new (k:=0)
 generalize hbn:nP 0=b' at s pQ
 refine zk 12 rfl (zc rfl (J.gw (i:=lo) uX uY vB (s.ae [1,0]) (aN _ _) pQ) ?_)
 rintro v h (⟨uZ,rfl,s,hd⟩|⟨uZ,rfl,sY,nQ,qn,s⟩)
 ·skip
  refine zk 5 rfl (zB rfl aD (by decide) ?_)
  exact zk 8 rfl (WP.ret ⟨aa,_,rfl,.inl ⟨rfl,uZ,aaf,uY,s.del 1,hd⟩⟩)
 refine zk 5 rfl (zC rfl aD (rfl) (zk 9 rfl (WP.ret ⟨aa,_,rfl,?_⟩)))
 have I:kB N R (Ej M lo) (pgG aaf ki):=I
 refine .inr ⟨uZ,_,rfl,sY,J.tr (J.tr g_ qU) nQ,qn,cM pG (by omega),I.put (by rw[iG,ak (by omega),J.pgG nQ]) ?_ I.ml I.own I.hi,fun m Ce B6=>by rw[iG,ak (by omega),J.pgG nQ,GN m Ce,J.pgG g_],by grind[iG],by rw[iG,aC rfl],s.del 1⟩
 rw[iG,ak (by omega),J.pgG nQ]
 exact I.marks
theorem Q_ (hT:W told)(hB:B≤2000)(I:EI N B ε)(hw:NW N now)(hp:kB N R M (pgG now ε))(J:lo<N)(h0:bt M lo=false)(h1:∀j,j<lo→bt M j=true)(s:Sat h (GA g a p q r data aH now ε::S)):
  Call ⟨Tryz.prog,told⟩ 150 [.ptr g 0] h fun v h'=>∃aj dM,v=.aQ [.int .i64 (lo:Int),.int .i64 0]∧EI N B aj∧Sm N ε aj∧NW N dM∧dM.length≤now.length+2∧kB N R (Ej M lo) (pgG dM aj)∧(∀m,m≠1→m≠(lo:Int)→pgG dM aj m=pgG now ε m)∧eD (pgG dM aj lo) 0 0 0 []∧pgG dM aj lo=nP 0 ∧
   Sat h' (GA g a p q r data aH dM aj::S) :=
 (XP hT (Mo.live hT hB) I hw hp J h0 h1 s).mono fun _ _ k=>k.resolve_left fun⟨_,_,_,_,_,q⟩=>q
end
theorem yt : gM (List.replicate 512 0)=0:=by rw[gM,aC rfl]
def fresh (n m f:Nat): bA:=(Pl.fresh f,(Lg.fresh,Dk.fresh n m))
theorem CW {n m:Nat}(k:Int): (Dk.fresh n m).at k=List.replicate 512 0:=by
 rw[Dk.at,show lookL k (Dk.fresh n m).now=none from rfl]
 simp only[Dk.fresh]
 cases I:(List.replicate n (none:Option (List Nat)))[k.toNat]? with
 |none=>rfl
 |some o =>
  have:=tG (bK I)
  subst this
  rfl
theorem vC {n m f:Nat}(k:Int): pgA (fresh n m f) k=List.replicate 512 0:=by
 rw[nM (by rfl)]
 exact CW k
theorem qJ {f:Nat}{x:Fm}(h:(Pl.fresh f).ai[i]?=some x): x=fh:=tG (bK h)
theorem EI.fresh {n m f:Nat}(hn:n≤65536)(hm:m≤16777216)(hf:1≤f)(GZ:f≤1024): EI n 1 (fresh n m f):=by
 have J:∀x∈(Pl.fresh f).ai,x=fh:=fun x I=>tG I
 have hlen:(Pl.fresh f).ai.length=f:=eY
 refine⟨⟨⟨⟨(show 0<(Pl.fresh f).ai.length by rw[hlen];omega),(show(Pl.fresh f).ai.length≤1024 by rw[hlen];exact GZ),fun e he=>(by cases he),fun x I=>by rw[J x I];decide,fun x I=>by rw[J x I];decide⟩,Lg.Jr,?_⟩,fun x I=>by rw[J x I];rfl,⟨lZ,fun k i hk=>(by cases hk)⟩⟩,⟨?_,lZ,fun k i hk=>(by cases hk),fun i x I=>.inl (by rw[qJ I];decide),fun k hk=>(by cases hk),lZ⟩,⟨rfl,aV _,(show(1:Nat)+0≤1*1048600 by decide)⟩,?_⟩
 ·exact⟨(show(-1:Int)<4294967296 by decide),ew _,hm,fun e he=>(by cases he),fun i b hb=>(by have h1:some b=none:=tG (bK hb);cases h1),aV _,(show(List.replicate n (none:Option (List Nat))).length≤65536 by rw[eY];exact hn)⟩
 ·exact⟨rfl,(show(-1:Int)<0 by decide),eY,fun k hk=>(by cases hk),lZ,fun k h0 h1=>by show gM ((Dk.fresh n m).at k)=0;rw[CW];exact yt⟩
 ·have e:gq (Pl.fresh f).ai=0:=by
   rw[gq,List.count_eq_zero]
   intro hh
   obtain⟨x,I,hc⟩:=List.mem_map.1 hh
   rw[J x I] at hc
   cases hc
  show([]:List Wr).length+gq (Pl.fresh f).ai≤_
  rw[e];decide
theorem MO {n:Nat}(h:n<128): (digits 9 n).length=1:=by
 grind[digits]
theorem MP {n:Nat}(h:n<16384): (digits 9 n).length≤2:=by
 grind[digits]
theorem CX {c:bZ}(I:c.aK.toNat<16384)(J:c.pos.toNat<16384)(h3:c.b.length<16384): (jK c).length≤7+c.b.length:=by
 grind[MP,jK]
theorem XQ {now:List Nat}{l:List bZ}(I:uT pg er now i l)(hn:now.length=512)(hp:pg.toNat<16384): ∀j,(∀k,i≤k→k<j→er[k]?=now[k]?)→j≤520→(l.flatMap jK).length≤520-max i j:=by
 induction I with
 |done i h=>simp
 |skip i l h he I ih =>
  grind
 |take i e l h1 h2 h3 h4 I ih =>
  intro j hj hj2
  have yP:j≤i:=wm fun J=>h3 (hj i (aV _) J)
  have h5:=ih (e+8) h4 (by omega)
  have hl:((now.take e).drop i).length=e-i:=by grind
  have h6:=CX (c:=⟨pg,i,false,(now.take e).drop i⟩) hp (by grind) (by grind)
  rw[pM,b7]
  simp only[hl] at h6
  omega
theorem XR {now:List Nat}{c:List bZ}(I:GQ pg er now c)(J:now.length=512)(hp:pg.toNat<16384): (c.flatMap jK).length≤520:=by
 obtain⟨l,hl,rfl⟩:=I
 have:=XQ hl J hp 0 (fun k _ h=>absurd h (by omega)) (by omega)
 grind[CX]
theorem iw.Ra {l:List Int}{cs:List bZ}(J:iw now l ε e cs aj)(hn:NW N now): (∀n∈l,n.toNat<16384)→(cs.flatMap jK).length≤520*l.length:=by
 induction J with
 |nil ε=>simp
 |err n l ε e b aj J he=>simp
 |part n l ε er b aj c e cs I J hb iP hc jO ht ih =>
  intro hl
  have h1:=XR hc (fb (hn.look hb).1) (hl n bX)
  grind
 |whole n l ε er b aj e cs I J hb iP ht ih =>
  have pQ:=fb (hn.look hb).1
  grind[CX]
theorem JD {cs:List bZ}{kd:Int}(hr:iw now (bP now) ε e cs aj)(I:NW N now)(hL:now.length≤L)(hN:N≤16384)(ht:tx<16384): (c_ kd tx 0 0 [] cs).length≤520*L+20:=by
 have h2:=MP ht
 have h4:=MO (n:=([]:List Nat).length) (by decide)
 have h5:=Cq cs.length
 have h6:=hr.Ra I fun n hm=>by have:=I.keys n (h_.1 hm);omega
 have J:(bP now).length≤L:=by
  rw[bP,(eR _).length_eq,gD];exact hL
 have J:=ES 520 J
 simp only[c_,b7,bz,cG] at h4 ⊢
 omega
theorem nR (K M:Nat): lM fun x=>x.2.log.length=K∧x.2.room=M:=by
 refine⟨fun x n h => ?_,fun x n b h => ?_⟩
 ·unfold bx Dk.cF
  split
  ·exact h
  ·split
   ·exact h
   ·split
    ·exact h
    ·split<;>first|exact h|exact h
 ·unfold Dk.bL
  split
  ·exact h
  ·split
   ·exact h
   ·split<;>exact h
def Cs (K M:Nat)(ε:bA): Prop:=ε.2.2.log.length≤K∧ε.2.2.room=M
theorem Cs.sm {M:Nat}(h:Cs K M ε)(hs:Sm N ε aj): Cs K M aj:=by
 have:=hs.2.1 _ ((nR ε.2.2.log.length ε.2.2.room).rO N) ⟨rfl,rfl⟩
 exact⟨by rw[this.1];exact h.1,by rw[this.2];exact h.2⟩
theorem DnR.fits {M kd:Nat}{cl:Bool}(hr:DnR ε now kd tx 0 0 [] 0 aF e cl aj)(I:EI N B ε)(hB:B≤4000)(hw:NW N now)(hL:now.length≤L)(hN:N≤2999)(hL2:L≤2000)(h1:1≤kd)(h2:kd≤7)(qR:tx<16384)(hd:Cs K M ε)(hf:K+520*L+28≤M):
  cl=true∧e=0∧Cs (K+520*L+28) M aj:=by
 have J:∀n∈bP now,0≤n∧n<N:=fun n hq=>hw.keys n (h_.1 hq)
 obtain⟨hK,hM⟩:=hd
 have Ol:=I.done hB hw (by omega) (by omega) hr
 cases hr with
 |arg hh=>omega
 |dead _ _ _ hd=>omega
 |nq e c aj _ _ _ _ hc Jj=>exact absurd (hc.ec I.ec I.ok J).2.2 Jj
 |app c ki _ _ _ _ hc Jj =>
  have w_:=JD (kd:=kd) hc hw hL (by omega) qR
  have aeE:520*L+20≤1048576:=by omega
  have hP:=(nR ε.2.2.log.length ε.2.2.room).ch hc ⟨rfl,rfl⟩
  grind[jk,fO,mJ]
 |put c ki e uZ _ _ _ _ hc ha hp =>
  rcases Ol with⟨jO,_⟩|⟨_,he,_⟩
  ·grind
  ·refine⟨rfl,he,?_⟩
   have w_:=JD (kd:=kd) hc hw hL (by omega) qR
   have hP:=(nR ε.2.2.log.length ε.2.2.room).ch hc ⟨rfl,rfl⟩
   rcases jk ki.2 kd tx 0 0 [] c with⟨e,he,yL,hq⟩|⟨_,Wa,hq⟩|⟨_,hb,Ic,fG,Wa,hq⟩
   ·grind
   ·grind
   ·rw[hq] at hp
    have ku:=(nR (ε.2.2.log.length+(fO ki.2.1 kd tx 0 0 [] c).length) ε.2.2.room).pt hp ⟨by grind,hP.2⟩
    have h3:(fO ki.2.1 kd tx 0 0 [] c).length≤520*L+28:=by rw[fO,mJ];omega
    exact⟨by omega,by omega⟩
def sdep : Code→Nat
 |.seq a b=>1+max (sdep a) (sdep b)
 |_=>1
def WPd (C:ep)(ax:Nat)(code:Code)(E:List (Nat×V))(h:H)(d:sy)(Q:Ex→List (Nat×V)→H→sy→Prop): Prop :=
 ∀env,iM env E→∃N0 ex I h' E' J,(∀N m,N0≤N→sdep code≤m→evTop C N m code ⟨env,ax,h⟩ d=some (ex,⟨I,ax,h'⟩,J))∧iM I E'∧Q ex E' h' J
section
variable {ax:Nat} {d:sy} {Q:Ex→List (Nat×V)→H→sy→Prop}
def noDef : List Oper→Bool
 |[]=>true
 |o::l=>(match o.op with
  |.defer _=>false
  |_=>true)&&noDef l
def noDefC : Code→Bool
 |.seq a b=>noDefC a&&noDefC b
 |.region _ ops false=>noDef ops.toList
 |_=>true
theorem Rb {self:Self}{L:List Oper}: ∀ {l:List Oper} {s s':St},noDef l=true→evOps C self L l s=some s'→evOpsD C self L l s d=some (s',d):=by
 intro l
 induction l<;>grind[evOps,noDef,evOpsD]
theorem evTop_of : ∀ {code:Code} {n:Nat} {s:St} {ex:Ex} {s':St} {d:sy},noDefC code=true→ev C n code s=some (ex,s')→∀N m,n≤N→sdep code≤m→evTop C N m code s d=some (ex,s',d):=by
 have leaf:∀ {code:Code} {n:Nat} {s:St} {ex:Ex} {s':St} {d:sy} {N m:Nat},(∀m,evTop C N (m+1) code s d=match ev C N code s with
   |some (ex,s')=>some (ex,s',d)
   |none=>none)→ev C n code s=some (ex,s')→n≤N→1≤m→evTop C N m code s d=some (ex,s',d):=fun {code n s ex s' d N m} he I J hm=>by
  obtain⟨k,rfl⟩:∃k,m=k+1:=⟨m-1,by omega⟩
  rw[he,dO J _ _ _ I]
 intro code
 induction code with
 |seq a b iha ihb =>
  intro n s ex s' d hn I N m J hm
  simp only[noDefC,bH] at hn
  simp only[sdep] at hm
  obtain⟨k,rfl⟩:∃k,m=k+1:=⟨m-1,by omega⟩
  cases n with
  |zero=>cases I
  |succ n =>
   rw[je] at I
   simp only[evStep] at I
   cases ha:ev C n a s with
   |none=>grind
   |some r =>
    obtain⟨e1,s1⟩:=r
    have h1:=iha (d:=d) hn.1 ha N k (by omega) (by omega)
    simp only[evTop,h1]
    rw[ha] at I
    cases e1 with
    |normal=>exact ihb hn.2 I N k (by omega) (by omega)
    |exit i=>grind
    |ret=>grind
 |region id ops draw =>
  intro n s ex s' d hn I N m J hm
  cases draw with
  |true=>exact leaf (fun m=>rfl) I J hm
  |false =>
   obtain⟨k,rfl⟩:∃k,m=k+1:=⟨m-1,by have:1≤m:=hm;omega⟩
   cases n with
   |zero=>cases I
   |succ n =>
    rw[je] at I
    simp only[evStep,aX] at I
    cases ho:evOps C (ev C n) ops.toList ops.toList s with
    |none=>grind
    |some s1 =>
     rw[ho] at I
     obtain⟨rfl,rfl⟩:=I
     have h2:=qt (dO (C:=C) (show n≤N by omega)) _ _ _ ho
     simp only[evTop,Rb (d:=d) hn h2]
 |_=>intro n s ex s' d hn I N m J hm;exact leaf (fun m=>rfl) I J hm
theorem WPd.of_wp (J:noDefC code=true)(hw:WP C ax code E h fun ex E' h'=>Q ex E' h' d): WPd C ax code E h d Q:=by
 intro env hE
 obtain⟨N,ex,I,h',E',h1,h2,h3⟩:=hw env hE
 exact⟨N,ex,I,h',E',d,fun M m hM hm=>evTop_of J h1 M m hM hm,h2,h3⟩
theorem WPd.seq {a b:Code}(hw:WPd C ax a E h d fun ex E' h' J=>match ex with
  |.normal=>WPd C ax b E' h' J Q
  |ex=>Q ex E' h' J): WPd C ax (.seq a b) E h d Q:=by
 intro env hE
 obtain⟨N,ex,I,h',E',J,h1,h2,h3⟩:=hw env hE
 have one:∀M m,N≤M→sdep (.seq a b)≤m+1→evTop C M m a ⟨env,ax,h⟩ d=some (ex,⟨I,ax,h'⟩,J):=fun M m hM hm=>h1 M m hM (by simp only[sdep] at hm;omega)
 have out:(match ex with|.normal=>False|_=>True)→Q ex E' h' J→∃N0 ex I h' E' J,(∀N m,N0≤N→sdep (.seq a b)≤m→evTop C N m (.seq a b) ⟨env,ax,h⟩ d=some (ex,⟨I,ax,h'⟩,J))∧iM I E'∧Q ex E' h' J:=fun hx hq=>by
  refine⟨N,ex,I,h',E',J,fun M m hM hm => ?_,h2,hq⟩
  obtain⟨k,rfl⟩:∃k,m=k+1:=⟨m-1,by simp only[sdep] at hm;omega⟩<;>grind[evTop]
 cases ex with
 |normal =>
  obtain⟨K,su,AJ,PL,E2,d2,g1,g2,g3⟩:=h3 I h2
  refine⟨max N K,su,AJ,PL,E2,d2,fun M m hM hm => ?_,g2,g3⟩
  obtain⟨k,rfl⟩:∃k,m=k+1:=⟨m-1,by simp only[sdep] at hm;omega⟩<;>grind[sdep,evTop]
 |exit i=>simp_all
 |ret=>simp_all
theorem WPd.defer {ops:Array Oper}{I J:Oper}{x1:Operand}{v:V}{first cap:List V}(hL:ops.toList=[I,J])(g1:I.guard=none)(d1:I.dst=some k)(p1:I.op=.move x1)(hk:Nat.blt k ax=true)(hx:bj E x1=some v)
 (g2:J.guard=none)(d2:J.dst=none)(p2:J.op=.defer cl)(hc:cl.callee=.value y)(hy:bj ((k,v)::E) y=some (.fn (.func g) first cap))(ha:lookArgs ((k,v)::E) cl.args.toList=some args)
 (hq:Q .normal ((k,v)::E) h ((g,first++args,cap)::d)): WPd C ax (.region id ops false) E h d Q:=by
 intro env hE
 have MQ:iM (env.set k (some v)) ((k,v)::E):=hE.set _ _
 refine⟨0,.normal,env.set k (some v),h,(k,v)::E,(g,first++args,cap)::d,fun M m _ hm => ?_,MQ,hq⟩
 obtain⟨j,rfl⟩:∃j,m=j+1:=⟨m-1,by have:1≤m:=hm;omega⟩
 have e1:evOpsD C (ev C M) [I,J] [I,J] ⟨env,ax,h⟩ d=some (⟨env.set k (some v),ax,h⟩,(g,first++args,cap)::d):=by
  have wO:wantedV [I,J] env I=true:=by simp[wantedV,g1]
  have he1:evOp C (ev C M) env h I=some (v,h):=by simp only[evOp,p1,bM hE hx];rfl
  have TQ:St.put ⟨env,ax,h⟩ I.dst v h=some ⟨env.set k (some v),ax,h⟩:=by grind[St.put]
  rw[evOpsD]
  grind[evOpsD,lE,bM]
 simp only[evTop,hL,e1]
theorem toldDefer_do {f:FuncId}{R:V→H→Prop}(hf:C.P.funcs[f]?=some fn)(hb:fn.body=some code)(hl:Nat.blt fn.ntmps args.length=false)(hdp:sdep code≤1000)
 (hw:WPd C fn.ntmps code (argE args 0) h [] fun ex E' h' d'=>(match ex with|.exit _=>False|_=>True)∧∃I v,(∃N0,∀N,N0≤N→runDefs C N d' h'=some I)∧resLE C.P E' I fn.results.toList=some v∧R v I):
  ∃v I,(∃N0,∀N,N0≤N→toldDefer C N f args h=some (v,I))∧R v I:=by
 obtain⟨N0,ex,J,h',E',d',h1,I,hx,h3,v,⟨N1,hr⟩,CF,hR⟩:=hw _ (tV args)
 refine⟨v,h3,⟨max N0 N1,fun N hN => ?_⟩,hR⟩
 have e1:=h1 N 1000 (by omega) hdp
 have e3:resOf C.P ⟨J,fn.ntmps,h3⟩ fn.results.toList=some v:=by
  unfold resLE at CF
  cases hm:mapO (resE C.P E' h3) fn.results.toList with
  |none=>grind
  |some vs =>
   have Gi:=wR (P:=C.P) (s:=⟨J,fn.ntmps,h3⟩) I hm
   grind[resOf]
 unfold toldDefer
 simp only[hf,hb,hl,aX,e1]
 cases ex with
 |exit i=>grind
 |normal=>grind
 |ret=>grind
theorem rZ {g:FuncId}{v:V}{J:H}(ht:C.told g=none)(hf:C.P.funcs[g]?=some fn)(hb:fn.body=some code)(hq:quietParts code=none)(hc:gJ C g args h v J): ∃I,∀N,I≤N→runDefs C N [(g,args,[])] h=some J:=by
 obtain⟨I,h0⟩:=hc
 refine⟨I,fun N hN => ?_⟩
 have e:=mH (dO (C:=C) hN) h0
 grind[runDefs,defCall]
end
def vR (f:FuncId)(args:List V)(h:H)(r:V×H): Prop:=∃I,∀N,I≤N→toldDefer CB N f args h=some r
theorem Call.defer {told:cJ}{f:FuncId}{R:V→H→Prop}(ht:told f=some (iQ Tryz.prog f (vR f)))(hf:Tryz.prog.funcs[f]?=some fn)(hb:fn.body.isSome=true)
 (hd:∃v I,(∃J,∀N,J≤N→toldDefer CB N f args h=some (v,I))∧R v I): Call ⟨Tryz.prog,told⟩ f args h R:=by
 obtain⟨v,I,⟨J,h0⟩,hR⟩:=hd
 obtain⟨r,e1,N1,h1⟩:=qj (P:=Tryz.prog) (f:=f) (jF:=vR f) (args:=args) (h:=h) (r:=(v,I)) ⟨J,h0⟩ (fun c w qq hw=>z6 (C:=CB) fT eB (h0 J (aV _)) qq hw)
 have:r=(v,I):=by
  have a:=h0 (max J N1) (by omega)
  grind
 subst this
 exact⟨v,I,gJ.told ht hf hb e1,hR⟩
section
variable {y:V}
theorem XS (s:Sat h S){e:TypeId}{z:V}(hu:P.underlying t=some (.slice e))(hz:zeroT P e=some z)(hk:bB P e=some 1)(hl:z.cells.length=1)(hx:x.cells=[x])(hy:y.cells=[y])(I:storable x=true)(J:storable y=true):
  ∃v h',buildSliceV P h t 2 [(0,x),(1,y)]=some (v,h')∧Sat h' (.arr 1 v [x,y]::S):=by
 refine⟨.sl h.next 0 2 (.exact 2),newRow h [x,y],?_,?_⟩
 ·obtain⟨z0,zD⟩:∃z0,z.cells=[z0]:=by
   match hq:z.cells with
   |[]=>rw[hq] at hl;cases hl
   |[z0]=>exact⟨z0,rfl⟩
   |_::_::_=>rw[hq] at hl;simp at hl
  simp only[buildSliceV,hu,hk,hz,zD]
  rw[show(Nat.beq [z0].length 1&&Nat.ble (2*1) 65536&&Nat.ble 1 1)=true by rfl,ah]
  have e1:repeatL [z0] 2=[z0,z0]:=by simp[repeatL]
  simp only[fillV,e1,hx,hy,bz,cG]
  show cond ([x,y].all storable) (some (V.sl h.next 0 2 (Cap.exact 2),newRow h [x,y])) none=_
  simp only[iU,jd,I,J]
  rfl
 ·refine(s.new _).iu fun m r hm=>⟨by simp[I,J],.inr ⟨h.next,2,.exact 2,2,[],rfl,?_,rfl,rfl,rfl,rfl,aV _⟩⟩
  have hm:m h.next=some (.cells 2 [x,y] false):=hm
  rw[hm];rfl
theorem XT {S:Prop}: cN (pu S) (cP .aY []):=fun _ _ _=>.inl ⟨fun _ h=>(by cases h),.inl ⟨.inl rfl,rfl⟩⟩
end
theorem El {kd:Nat}: buildV Tryz.prog 104 [(0,.int .i64 (kd:Int))]=some (.agg (dx (kd:Int) 0 0 0 .aY .aY)):=by rw[rV];rfl
section
variable {told:cJ} {M n p:Nat} {v y op cv:V} {us:List V} {kd:Nat} {pg:bA→Int→List Nat}
theorem eD.done (hw:NW N now)(hd:∀m,pgA aj m=match lookL m now with|some b=>cz b aF|none=>pgA ε m){i:Int}(I:eD (pgG now ε i) kd link extra cs): eD (pgA aj i) kd link extra cs:=by
 rw[hd]
 unfold pgG at I
 cases J:lookL i now with
 |none=>rw[J] at I;exact I
 |some b =>
  rw[J] at I
  obtain⟨k1,k2,_⟩:=nL (n:=aF) I.len
  exact I.tail k2 k1
theorem kB.done {M:List Nat}(hw:NW N now)(hd:∀m,pgA aj m=match lookL m now with|some b=>cz b aF|none=>pgA ε m)(I:kB n R M (pgG now ε)): kB n R M (pgA aj):=by
 obtain⟨ex,J⟩:=I.head
 obtain⟨kd,lk,su,h1⟩:=I.marks
 exact⟨⟨ex,J.done hw hd⟩,I.rl,⟨kd,lk,su,h1.done hw hd⟩,I.ml,I.n1,I.n2,I.own,I.hi⟩
theorem Rc (hT:W told)(iO:iL ε)(I:b6 ε+65536≤268435456)(J:ε.2.1.b=ε.2.2.log)(eL:ε.2.1.base+ε.2.1.b.length+1048584≤1099511627776)(hNm:N≤65536)(hw:NW N now)(s:Sat h (GA g a p q r data aH now ε::S)):
  Call ⟨Tryz.prog,told⟩ 50 [.ptr g 0,.agg (dx (kd:Int) 0 0 0 .aY .aY)] h fun v h'=>∃(aF:Nat) (e:Int) (cl:Bool) (aj:bA),DnR ε now kd 0 0 0 [] 0 aF e cl aj∧v=.aQ [.int .u64 (aF:Int),.int .i64 e] ∧
   Sat h' (eW g a now cl::SA a p q r (cond cl .bq (.ptr g 0)) data aH aj::S):=by
 have s:=aM.1 s
 have s:Sat h (eW g a now false::dA a p q r (.ptr g 0) data aH::eo r p q ε.1::bS q p ε.2.1::aO p ε.2.2::S):=s
 have s:=(s.fB (φ:=True) aa).kg (k:=4)
 refine(Mz (qI:=0) (data:=[]) hT (s.ae [2,2,2,2,2,1,0]) XT rfl iO I (fun e he=>fb (hw.good e he).1) (by have:=hw.len;omega) (fun n hn=>by have:=hw.keys n hn;omega) (by decide) (by decide) (by decide) (ew _) J eL).mono ?_
 rintro v h ⟨aF,e,cl,aj,hr,rfl,s⟩
 have s:Sat h (eW g a now cl::dA a p q r (cond cl .bq (.ptr g 0)) data aH::eo r p q aj.1::bS q p aj.2.1::aO p aj.2.2::pu True::S):=s
 have s2:Sat h (SA a p q r (cond cl .bq (.ptr g 0)) data aH aj::eW g a now cl::pu True::S):=aM.2 (s.ae [1,1,1,1,0])
 exact⟨aF,e,cl,aj,hr,rfl,(s2.ae [1]).del 2⟩
theorem Re (hT:W told)(hB:B≤4000)(I:EI N B ε)(hw:NW N now)(s:Sat h (GA g a p q r data aH now ε::S)):
  Call ⟨Tryz.prog,told⟩ 50 [.ptr g 0,.agg (dx (kd:Int) 0 0 0 .aY .aY)] h fun v h'=>∃(aF:Nat) (e:Int) (cl:Bool) (aj:bA),DnR ε now kd 0 0 0 [] 0 aF e cl aj∧v=.aQ [.int .u64 (aF:Int),.int .i64 e] ∧
   Sat h' (eW g a now cl::SA a p q r (cond cl .bq (.ptr g 0)) data aH aj::S):=by
 have J:=I.b6
 have eL:=I.el.size
 exact Rc hT I.ok (by omega) I.el.log (by omega) I.many hw s
theorem Rf (hT:W told)(hB:B≤4000)(I:EI N B ε)(hw:NW N now)(hL:now.length≤L)(hN:N≤2999)(hL2:L≤2000)(h1:1≤kd)(h2:kd≤7)(hd:Cs K M ε)(hf:K+520*L+28≤M)(s:Sat h (GA g a p q r data aH now ε::S)):
  Call ⟨Tryz.prog,told⟩ 50 [.ptr g 0,.agg (dx (kd:Int) 0 0 0 .aY .aY)] h fun v h'=>∃(aF:Nat) (aj:bA),v=.aQ [.int .u64 (aF:Int),.int .i64 0]∧EI N (B+2) aj∧(∀m,pgA aj m=match lookL m now with|some b=>cz b aF|none=>pgA ε m)∧Cs (K+520*L+28) M aj ∧
   Sat h' (eW g a now true::SA a p q r .bq data aH aj::S)∧DnR ε now kd 0 0 0 [] 0 aF 0 true aj:=by
 refine(Re hT hB I hw s).mono ?_
 rintro v h ⟨aF,e,cl,aj,hr,rfl,s⟩
 obtain⟨rfl,rfl,J⟩:=hr.fits I (by omega) hw hL hN hL2 h1 h2 (by decide) hd hf
 rcases I.done (by omega) hw (by omega) (by omega) hr with⟨jO,_⟩|⟨_,_,GR,gP⟩
 ·cases jO
 ·exact⟨aF,aj,rfl,GR,gP,J,s,hr⟩
noncomputable def mdL : Code:=cU [1,1,1,0,1,0,0] ((Tryz.f147.body).getD .skip)
theorem Rg (hT:W told)(fG:26+4*cs.length+tot cs≤512)(hul:us.length=cs.length): ∀(m i:Nat) (v:V) (b:List Nat) (h:H) (E:List (Nat×V)) (Q:Ex→List (Nat×V)→H→Prop),i+m=cs.length→eD b kd link extra (cs.take i) →
  Sat h (aZ v b::each (fun v c=>.cD v c) us cs::.arr 1 cv us::S)→Has E [(7,v),(22,cv),(23,.int .i64 (cs.length:Int)),(24,.int .i64 (i:Int))] →
  (∀v' b' E' h',eD b' kd link extra cs→Has E' [(7,v')]→Sat h' (aZ v' b'::each (fun v c=>.cD v c) us cs::.arr 1 cv us::S)→Q (.exit 0) E' h')→WP ⟨Tryz.prog,told⟩ 38 (.loop mdL) E h Q:=by
 intro m
 induction m with
 |zero =>
  intro i v b h E Q hi hp s hE hq
  refine WP.loop (WP.has hE (zg rfl (zC rfl aT (by simp;omega) ?_)))
  exact zk 3 rfl (WP.exit (hq v b _ _ (by rw[show cs.take i=cs from gB (by omega)] at hp;exact hp) ⟨rfl,aa⟩ s))
 |succ m ih =>
  intro i v b h E Q hi hp s hE hq
  have I:cs[i]?=some (cs[i]'(by omega)):=bw _
  generalize (cs[i]'(by omega))=c at I
  obtain⟨u,hu,s⟩:=Xk (fun _ _=>bg.cD _ _) (s.ae [1]) I
  dsimp only[aE,bringA] at s
  obtain⟨id,off,e1,e2⟩:=kJ (P:=Tryz.prog) s (k:=3) (i:=i) (c:=u) rfl hu gz gY
  have QX:=nO I
  have Mm:=oV (cs:=cs) (i:=i+1)
  have hlen:(cs.take i).length=i:=by rw[gR];omega
  have Rh:cs.take (i+1)=cs.take i++[c]:=by rw[EX,I];rfl
  refine WP.loop (WP.has hE (zg rfl (zB rfl aT (by simp;omega) ?_)))
  refine zk 5 rfl (WP.block (zK 3 rfl (zo rfl (c8 (r:=.ptr id off) rfl rfl e1) (zl rfl (e2 _ bJ) (zk 7 rfl ?_)))))
  have J:=MG (told:=told) hT (s.ae [2,0]) (aN _ _) (dy _ _) hp (by rw[hlen];omega)
  rw[hlen] at J
  refine zc rfl (J) ?_
  rintro r h ⟨u',b',rfl,pQ,s⟩
  rw[←Rh] at pQ
  refine zk 4 rfl (zv (zr rfl (zb rfl (by exact bf (aA (by omega) (by omega))) ?_)))
  refine zm rfl (zv ?_)
  exact ih (i+1) u' b' _ _ Q (by omega) pQ (((s.ae [0,2,2]).del 4).del 3) ⟨rfl,rfl,rfl,rfl,aa⟩ hq
theorem MR (hT:W told)(V_:kd≤255)(MF:lk<4294967296)(I:26+4*cs.length+tot cs≤512)(J:us.length=cs.length)(s:Sat h (each (fun v c=>.cD v c) us cs::.arr 1 cv us::S)):
  Call ⟨Tryz.prog,told⟩ 147 [.int .i64 (kd:Int),.int .i64 (lk:Int),cv] h fun r h'=>∃b',eD b' kd lk 0 cs∧Sat h' (aZ r b'::S):=by
 refine Call.of_wp (hT.free _ rfl) Tryz.func147 rfl rfl (zK 7 rfl (zc rfl (Jw (kd:=kd) hT s V_) ?_))
 rintro r h ⟨u,b,rfl,hb,s⟩
 refine zk 10 rfl (zc rfl (ME (lk:=lk) (ex:=0) hT s (aN _ _) hb MF (by decide)) ?_)
 rintro r h ⟨u2,b2,rfl,zE,s⟩
 refine zk 9 rfl (zo rfl (aP rfl rfl rfl (s.fR (n:=cs.length) (j:=3) rfl (by rw[J,iV]) (by decide) gz)) ?_)
 refine zk 2 rfl (WP.block ?_)
 refine Rg hT I J cs.length 0 u2 b2 _ _ _ (by omega) zE (s.ae [0,1,1]) ⟨rfl,rfl,rfl,rfl,aa⟩ (fun v' b' E' h' hp' hE s' => ?_)
 have s:=s'
 exact WP.has hE (zK 5 rfl (WP.ret ⟨aa,_,rfl,b',hp',((s.del 3).del 2).del 1⟩))
theorem Om (J:W told)(s:Sat h (X::S))(hX:cN X (cP v b))(hl:b.length=512)(hg:cf b=false): Call ⟨Tryz.prog,told⟩ 203 [v] h fun r h'=>r=.aQ [.aY,.int .i64 4]∧Sat h' (X::S):=by
 refine Call.of_wp (J.free _ rfl) Tryz.func203 rfl rfl (zK 8 rfl (zc rfl (uJ J s hX (by omega)) ?_))
 rintro r h' ⟨s,(⟨I,rfl⟩|⟨_,rfl⟩)⟩
 ·rw[hg] at I;cases I
 refine zk 3 rfl ?_
 refine au.bD s rfl rfl rfl (bI jT) (fun p4 h s => ?_)
 refine zS rfl (s.eS (j:=0) rfl bN rfl rfl) (fun h s => ?_)
 refine zk 6 rfl (zB rfl aD (by decide) ?_)
 exact zk 8 rfl (WP.ret ⟨aa,_,rfl,rfl,s.drop⟩)
theorem Ri (hT:W told)(hR:Eh told N B rv A pg)(J:EI N B ε)(hN:1≤N)(hl:(pg ε 0).length=512)(hg:cf (pg ε 0)=false)(s:Sat h (A ε::S)):
  Call ⟨Tryz.prog,told⟩ 144 [rv] h fun v h'=>∃aj,v=.aQ [.aY,.int .i64 0,.bool false,.int .i64 0]∧EI N B aj∧Sm N ε aj∧Sat h' (A aj::S):=by
 obtain⟨ty,u,f,rfl,hm,lQ⟩:=hR.iface
 refine Call.of_wp (hT.free _ rfl) Tryz.func144 rfl rfl (zK 10 rfl (au.any rfl rfl rfl (OpR.invoke rfl rfl rfl hm rfl (lQ J (by decide) (by omega) s)) ?_))
 rintro v h ⟨u,aj,rfl,I,hs,s⟩
 refine zk 10 rfl (zC rfl aD (rfl) (zk 6 rfl (zc rfl (Om hT s (aN _ _) hl hg) ?_)))
 rintro v h ⟨rfl,s⟩
 refine zk 8 rfl (WP.drawn [af,af,af,af,af,af,af,af,some (0,2),some (0,2),some (0,2),af,af,af,af,af,af,af,af,af,af,af] rfl (by kernel_rfl) (by kernel_rfl) ?_)
 refine zM rfl (az.vl rfl rfl rfl rfl (ay rfl rfl aD) (by decide) ?_)
 refine zM rfl (az.no (e:=false) rfl rfl rfl rfl (az.no (e:=false) rfl rfl rfl rfl (az.no (e:=false) rfl rfl rfl rfl (zO rfl (ru rfl rfl) (zM rfl (az.no (e:=false) rfl rfl rfl rfl (az.no (e:=false) rfl rfl rfl rfl (az.no (e:=false) rfl rfl rfl rfl (az.no (e:=true) rfl rfl rfl rfl (az.no (e:=true) rfl rfl rfl rfl (az.no (e:=false) rfl rfl rfl rfl (zO rfl (ru rfl rfl) (zM rfl (az.no (e:=false) rfl rfl rfl rfl (az.no (e:=false) rfl rfl rfl rfl (az.no (e:=false) rfl rfl rfl rfl (az.no (e:=false) rfl rfl rfl rfl (az.no (e:=false) rfl rfl rfl rfl (zO rfl (ru rfl rfl) ?_)))))))))))))))))))
 refine az.nil ⟨⟨aa,aa,aa,aa,aa,aa,aa,aa,fun _ _=>.inl rfl,fun _ _=>.inl rfl,fun _ _=>.inl rfl,aa,aa,aa,aa,aa,aa,aa,aa,aa,aa,aa,aa⟩,?_⟩
 exact zK 8 rfl (WP.ret ⟨aa,_,rfl,aj,rfl,I,hs,s.drop⟩)
theorem yW (hT:W told)(hR:Eh told N B rv A pg)(J:EI N B ε)(hN:1≤N)(hl:(pg ε 0).length=512)(hg:cf (pg ε 0)=false)(s:Sat h (A ε::S)):
  Call ⟨Tryz.prog,told⟩ 78 [rv] h fun v h'=>∃aj,v=.aQ [.bool false,.int .i64 0]∧EI N B aj∧Sm N ε aj∧Sat h' (A aj::S):=by
 refine Call.of_wp (hT.free _ rfl) Tryz.func78 rfl rfl (zK 8 rfl (zc rfl (Ri hT hR J hN hl hg s) ?_))
 rintro v h ⟨aj,rfl,I,hs,s⟩
 exact zk 17 rfl (WP.ret ⟨aa,_,rfl,aj,rfl,I,hs,s⟩)
end
def AK : List Nat:=((List.replicate 375 0).set 0 1).set 0 3
theorem Rj : bt AK j=decide (j<2):=by
 unfold bt AK
 by_cases h:j/8=0
 ·have e:(((List.replicate 375 0).set 0 1).set 0 3).getD (j/8) 0=3:=by rw[h];decide +kernel
  have k:∀i,i<8→(3:Nat).testBit i=decide (i<2):=by decide
  rw[e,k _ (by omega)]
  by_cases I:j<2
  ·rw[eE I,eE (by omega)]
  ·rw[gC I,gC (by omega)]
 ·have e:(((List.replicate 375 0).set 0 1).set 0 3).getD (j/8) 0=0:=by
   rw[nU,qX (by omega),qX (by omega),EO]
   split<;>rfl
  rw[e,Nat.zero_testBit,gC (by omega)]
def GDn (N B kd:Nat)(ε aj:bA): Prop:=∃(I:bA) (now:List (Int×List Nat)) (aF:Nat),EI N B I∧Sm N ε I∧NW N now∧(∀i:Int,2≤i→lookL i now=none)∧DnR I now kd 0 0 0 [] 0 aF 0 true aj
section
variable {told:cJ} {M p:Nat}
set_option maxHeartbeats 1000000 in
theorem Rk (hB:B≤800)(mS:EI N B ε)(hN:4≤N)(hN2:N≤2999)(hz:(pgA ε 0).length=512)(hg:cf (pgA ε 0)=false)(hd:Cs K M ε)(hf:K+1068≤M)(s:Sat h (SA a p q r .bq data aH ε::S)):
  ∃v h2,(∃N0,∀n,N0≤n→toldDefer CB n 79 [.ptr a 0] h=some (v,h2))∧(v=.int .i64 0∧∃aj,EI N (B+2) aj∧kB N (List.replicate 64 0) AK (pgA aj)∧Cs (K+1068) M aj∧Sat h2 (SA a p q r .bq data aH aj::S)∧GDn N B 1 ε aj):=by
 have I:=W.base
 refine toldDefer_do (C:=CB) Jg rfl rfl (of_decide_eq_true (by kernel_rfl)) ?_
 refine WPd.seq (WPd.of_wp rfl (zr rfl (za rfl (zv (WPd.seq (WPd.of_wp rfl (zr rfl (zm rfl (zo rfl (rU rfl (mki_of uQ rfl)) (zc rfl (yW I (Oj I (by omega)) mS (by omega) hz hg s) ?_))))))))))
 rintro v h ⟨qP,rfl,oB,g_,s⟩
 have hd:=hd.sm g_
 have s:Sat h (dA a p q r .bq data aH::eo r p q qP.1::bS q p qP.2.1::aO p qP.2.2::S):=aM.1 s
 refine zk 5 rfl (zv (WPd.seq (WPd.of_wp rfl (WP.block (zg rfl (zm rfl (zh rfl (ay rfl rfl aD) (rfl) (za rfl (zv (zj rfl (zg rfl (zk 2 rfl (zv (zj rfl (WP.skip (WPd.seq (WPd.of_wp rfl (zr rfl (zm rfl (zc rfl (TU I s) ?_))))))))))))))))))))
 rintro v h' ⟨rfl,rfl⟩
 refine zc rfl (xW I (s.ae [3])) ?_
 rintro v h' ⟨rfl,rfl⟩
 rw[oB.ec.dk.aq]
 refine za rfl (zv (WPd.seq (WPd.of_wp rfl (zr rfl (zm rfl (zc rfl (Q2 I (n:=N) (by omega) (by omega)) ?_))))))
 rintro v h' ⟨rfl,rfl⟩
 refine za rfl (zv (WPd.seq (WPd.of_wp rfl (zr rfl (zm rfl (zc rfl (sF I s) ?_))))))
 rintro v h ⟨g,rfl,s⟩
 refine zk 5 rfl (zv (WPd.seq (WPd.seq (WPd.of_wp rfl (zr rfl (zm rfl (zh rfl (ay rfl rfl aD) (rfl) (zv (WPd.of_wp rfl (zj rfl (WP.skip (WPd.seq (WPd.defer rfl rfl rfl rfl rfl rfl rfl rfl rfl rfl rfl rfl (WPd.seq (WPd.seq (WPd.of_wp rfl (zr rfl (zk 2 rfl (zb rfl (by exact bf (aA (by omega) (by omega))) ?_)))))))))))))))))))
 refine zC rfl aT (by simp;omega) ?_
 have s:Sat h (GA g a p q r data aH [] qP::S):=aM.2 s
 refine zv (WPd.of_wp rfl (zj rfl (WP.skip (WPd.seq (WPd.seq (WPd.of_wp rfl (WP.drawn [some (0,5),some (0,4),af,af,af,af,af,af] rfl (by kernel_rfl) (by kernel_rfl) ?_)))))))
 refine zM rfl (zM rfl (az.any rfl rfl rfl rfl (OpR.call rfl rfl rfl rfl (Jy I s)) ?_))
 intro mv h s
 refine az.any rfl rfl rfl rfl (OpR.nm rfl s rfl rfl rfl rfl (by decide)) ?_
 intro zbv h s
 have s:=s.gu
 have h64:(List.replicate 64 0).length=64:=eY
 have hm:=(s.aG (k:=1) rfl (dy _ _)).cells
 have hzc:=(s.aG (k:=0) rfl (dy _ _)).cells
 obtain⟨cv,h1,e1,s1⟩:=XS (P:=Tryz.prog) (x:=mv) (y:=zbv) s gz o8 gY rfl hm.1 hzc.1 hm.2 hzc.2
 refine az.any rfl rfl rfl rfl (OpR.of (R:=fun v h'=>v=cv∧h'=h1) (oF rfl e1) ⟨rfl,rfl⟩) ?_
 rintro cv h ⟨rfl,rfl⟩
 have s:=(s1.ae [2,1]).two (C:=each (fun v c=>.cD v c) [mv,zbv] [gj,List.replicate 64 0]) (bg.cD _ _) (bg.cD _ _) fun a b q1 q2=>⟨q1,q2,aa⟩
 generalize hR:List.replicate 64 0=R at s h64
 refine az.any rfl rfl rfl rfl (OpR.call rfl rfl rfl rfl (MR (kd:=201) (lk:=N) I (by decide) (by omega) (by simp only[tot,gj,bz,cG,h64];decide) rfl s)) ?_
 rintro u h ⟨b0,wH,s⟩
 refine az.any rfl rfl rfl rfl (OpR.call rfl rfl rfl rfl (BO (i:=0) I (by omega) oB (NW.nil N) (by omega) (s.ae [1,0]) (aN _ _) wH)) ?_
 rintro v h ⟨ki,rfl,uX,qU,uY,s⟩
 have hd:=hd.sm qU
 refine zA rfl ?_
 refine az.nil ⟨⟨fun _ _=>.inr ⟨rfl,⟨_,bn rfl⟩,aS _ rfl⟩,fun _ _=>.inr ⟨rfl,⟨_,bn rfl⟩,aS _ rfl⟩,aa,aa,aa,aa,aa,aa,aa⟩,?_⟩
 refine WPd.seq (WPd.of_wp rfl (zr rfl (zm rfl (zh rfl (ay rfl rfl aD) (rfl) (zv (WPd.of_wp rfl (zj rfl (WP.skip (WPd.seq (WPd.seq (WPd.of_wp rfl (zr rfl (za rfl (zv (WPd.of_wp rfl (WP.block (WP.loop (zw (zg rfl (zk 2 rfl (zt rfl (ay rfl rfl aT) (by decide) ?_)))))))))))))))))))))
 refine zv (zi rfl (WP.skip (zw (WP.block (zg rfl (au.any rfl rfl rfl (OpR.nm rfl s rfl rfl rfl rfl (by decide)) ?_))))))
 intro mk h s
 have J:(List.replicate 375 0).length=375:=eY
 have zD:(List.replicate 375 0)[0]?=some 0:=by decide +kernel
 have Ms:AK.length=375:=by unfold AK;rw[dg,dg,J]
 have AL:AK=((List.replicate 375 0).set 0 1).set 0 3:=rfl
 have MN:∀j,bt AK j=decide (j<2):=fun j=>Rj
 generalize AK=M0 at Ms AL MN ⊢
 generalize List.replicate 375 0=Z at s J zD AL
 obtain⟨id,off,e2,e3⟩:=fg (s.buf (k:=0) rfl).view zD
 obtain⟨Q9,JC,e4,h4,e5,s2⟩:=oR s (i:=0) (b:=1) (by omega) (by decide)
 have ee:V.ptr id off=V.ptr Q9 JC:=by rw[e2] at e4;exact cg e4
 rw[←ee] at e5
 refine zk 8 rfl (WP.block (WP.loop (zg rfl (zB rfl aT (by decide) ?_))))
 refine zk 5 rfl (WP.block (zK 8 rfl (zo rfl (ay (r:=.int .i64 0) rfl rfl (by kernel_rfl)) ?_)))
 refine zm rfl (zb rfl (by exact jI (aA (by omega) (by omega))) ?_)
 refine zB rfl dm (by decide) ?_
 refine zk 2 rfl (WP.drawn [af,af,af,af,af,af,af,af,af,af,af,af] rfl (by kernel_rfl) (by kernel_rfl) ?_)
 refine zM rfl (zM rfl (zO rfl (ay (r:=.int .i64 0) rfl rfl (by kernel_rfl)) ?_))
 refine zO rfl (ay (r:=.int .i64 0) rfl rfl (by kernel_rfl)) ?_
 refine zO rfl (c8 (r:=.ptr id off) rfl rfl e2) (zL rfl e3 (zM rfl (zO rfl (ay (r:=.int .i64 0) rfl rfl (by kernel_rfl)) ?_)))
 refine zO rfl (ay (r:=.int .u8 1) rfl rfl (by kernel_rfl)) ?_
 refine zO rfl (ay (r:=.int .u8 1) rfl rfl (by kernel_rfl)) ?_
 refine zO rfl (c8 (r:=.ptr id off) rfl rfl e2) (az.gh rfl rfl rfl (OpR.fM rfl rfl rfl (⟨h4,e5,s2⟩)) ?_)
 rintro w h ⟨rfl,s⟩
 refine az.nil ⟨⟨aa,aa,aa,aa,aa,aa,aa,aa,aa,aa,aa,aa,aa⟩,?_⟩
 have Ph:(Z.set 0 1)[0]?=some 1:=j4 (by omega)
 have oA:(Z.set 0 1).length=375:=by rw[dg,J]
 obtain⟨id5,T7,e6,e7⟩:=fg (s.buf (k:=0) rfl).view Ph
 obtain⟨id6,ac3,e8,h7,e9,s3⟩:=oR s (i:=0) (b:=3) (by omega) (by decide)
 have ee:V.ptr id5 T7=V.ptr id6 ac3:=by rw[e6] at e8;exact cg e8
 rw[←ee] at e9
 refine zr rfl (zb rfl (by exact bf (aA (by omega) (by omega))) ?_)
 refine zm rfl (zv (WP.loop (zg rfl (zt rfl (ay rfl rfl aT) (by decide) ?_))))
 refine zk 5 rfl (WP.block (zK 8 rfl (zo rfl (ay (r:=.int .i64 0) rfl rfl (by kernel_rfl)) ?_)))
 refine zm rfl (zb rfl (by exact jI (aA (by omega) (by omega))) ?_)
 refine zB rfl dm (by decide) ?_
 refine zk 2 rfl (WP.drawn [af,af,af,af,af,af,af,af,af,af,af,af] rfl (by kernel_rfl) (by kernel_rfl) ?_)
 refine zM rfl (zM rfl (zO rfl (ay (r:=.int .i64 1) rfl rfl (by kernel_rfl)) ?_))
 refine zO rfl (ay (r:=.int .i64 0) rfl rfl (by kernel_rfl)) ?_
 refine zO rfl (c8 (r:=.ptr id5 T7) rfl rfl e6) (zL rfl e7 (zM rfl (zO rfl (ay (r:=.int .i64 1) rfl rfl (by kernel_rfl)) ?_)))
 refine zO rfl (ay (r:=.int .u8 2) rfl rfl (by kernel_rfl)) ?_
 refine zO rfl (ay (r:=.int .u8 3) rfl rfl (by kernel_rfl)) ?_
 refine zO rfl (c8 (r:=.ptr id5 T7) rfl rfl e6) (az.gh rfl rfl rfl (OpR.fM rfl rfl rfl (⟨h7,e9,s3⟩)) ?_)
 rintro w h ⟨rfl,s⟩
 refine az.nil ⟨⟨aa,aa,aa,aa,aa,aa,aa,aa,aa,aa,aa,aa,aa⟩,?_⟩
 rw[←AL] at s
 refine zr rfl (zb rfl (by exact bf (aA (by omega) (by omega))) ?_)
 refine zm rfl (zv (WP.loop (zg rfl (zh rfl (ay rfl rfl aT) (by decide) ?_))))
 refine zk 3 rfl (WP.exit (zK 5 rfl ?_))
 have s:=s.gu
 have Wb:=(s.aG (k:=0) rfl (dy _ _)).cells
 obtain⟨cv2,h8,Zz,s4⟩:=kI (P:=Tryz.prog) (k:=1) (x:=mk) s gz o8 gY rfl (by decide) (by decide) (by rw[Wb.1];rfl) (by rw[Wb.1];simp only[iU,jd,Wb.2];rfl)
 rw[Wb.1] at s4
 refine au.any rfl rfl rfl (OpR.of (R:=fun v h'=>v=cv2∧h'=h8) (oF rfl Zz) ⟨rfl,rfl⟩) ?_
 rintro cv2 h ⟨rfl,rfl⟩
 have s:=(s4.ae [1]).iu (B:=each (fun v c=>.cD v c) [mk] [M0]) fun a b q=>⟨q,aa⟩
 dsimp only[aE,bringA] at s
 refine zc rfl (MR (kd:=202) (lk:=0) I (by decide) (by decide) (by simp only[tot,bz,cG,Ms];decide) rfl s) ?_
 rintro u h ⟨b1,sj,s⟩
 refine zc rfl (BO (i:=1) I (by omega) uX uY (by omega) (s.ae [1,0]) (aN _ _) sj) ?_
 rintro v h ⟨uZ,rfl,sY,nQ,qn,s⟩
 dsimp only[aE,bringA] at s
 have hd:=hd.sm nQ
 refine za rfl (zv (zg rfl (zm rfl (zh rfl (ay rfl rfl aD) (rfl) (zv (zj rfl (WP.skip (zr rfl (zm rfl (zb rfl (by exact bf (aA (by omega) (by omega))) ?_))))))))))
 refine zk 2 rfl (WP.loop (zK 5 rfl (zC rfl aT (by decide) ?_)))
 refine zk 2 rfl (WP.exit (WPd.seq (WPd.of_wp rfl (zK 2 rfl (zo rfl (cj rfl (El (kd:=1))) (zc rfl (Rf (kd:=1) (L:=2) I (by omega) sY qn (cM pG (Nat.succ_le_succ pG)) (by omega) (by decide) (by decide) (by decide) hd hf s) ?_))))))
 rintro v h ⟨aF,T8,rfl,aag,gP,hd4,s,JE⟩
 have Jv:kB N R M0 (pgG (b8 ((1:Nat):Int) b1 (b8 ((0:Nat):Int) b0 [])) uZ):=by
  refine⟨⟨0,?_⟩,h64,⟨202,0,0,?_⟩,Ms,by omega,by omega,fun j hj=>by rw[MN,eE hj],fun j hj=>by rw[MN,gC (by omega)]⟩
  ·rw[iG,ak (by decide),iG,aC (by decide)];exact wH
  ·rw[iG,aC (by decide)];exact sj
 refine zk 4 rfl (zv (WPd.seq (WPd.of_wp rfl (zr rfl (zk 2 rfl (zv (WPd.of_wp rfl (WP.ret ?_))))))))
 have s:=s.ae [1]
 have s:=aM.1 s
 have s:=s.ae [4]
 obtain⟨v2,h2,pS,rfl,s⟩:=tD I s
 have s:=s.ae [1,1,1,1]
 have s:Sat h2 (SA a p q r .bq data aH T8::_):=aM.2 s
 have sX:qF 59=none:=I.free _ rfl
 exact⟨aa,h2,_,rZ (C:=CB) sX Au rfl rfl pS,nG rfl,rfl,T8,aag,Jv.done qn gP,hd4,((s.del 3).del 2).del 1,uZ,_,aF,sY,(g_.trans qU).trans nQ,qn,fun i hi=>by rw[fH,ak (by omega),fH,ak (by omega)];rfl,JE⟩
end
end Go.Proofs.YtiojppeahfoiaaaGreat.Am
