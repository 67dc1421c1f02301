/- Part 7 of the proof. -/
import Derived.Test.YtgnajdcdcblaoaaGreatPF
import Derived.Test.YtgnajdcdcblaoaaGreatPE
import Derived.Test.YtgnajdcdcblaoaaGreatPB
import Derived.Test.YtgnajdcdcblaoaaGreatPD
set_option maxRecDepth 100000
set_option maxHeartbeats 4000000
open Go.Proofs.Tryz renaming prog→dr
open Go.Proofs.Tryz
namespace Go.Proofs.YtgnajdcdcblaoaaGreat
open Ex Num Rg
open Sh (R av rd mo en mo_en)
noncomputable section
theorem lN {x y:FP} (h:x*y≠0):Cw (x*y)=(Cw x==Cw y):=by
 have e:(x*y).val=Ae x.val y.val:=rfl
 unfold Cw;rw [e];exact ARb fun q=>h (Mt.1 (e.trans q))
theorem ALi:Cw (-1:FP)=false:=by
 cases h:Cw (-1:FP) with
 | false=>rfl
 | true=>obtain ⟨y,hy⟩:=AHF.1 h;exact absurd hy (AHC y)
theorem ALj:(1:FP)≠0:=FD.one_ne
theorem AkS {x:FP} (h:x≠0):Cw (-(x*x))=false:=by
 have e:-(x*x)=-1*(x*x):=ring [x] dm
 have h1:-(1:FP)*(x*x)≠0:=DC (fun q=>ALj (VG.1 q)) (DC h h)
 rw [e,lN h1,ALi,My rfl];rfl
theorem AkT:(1+1:FP)≠0:=fun e=>by
 rw [← D6,← Gx] at e;have:=jw Fin.val e
 rw [HO dp] at this;cases this
def BQ:FP:=FD.inv (1+1)
theorem ABA:BQ+BQ=1:=by
 have:=FD.mul_inv (1+1:FP) AkT
 rw [← this];exact ring [BQ] (a:=BQ+BQ) (b:=(1+1)*BQ) dm
theorem ALk {a:gw} {m:FP} (hm:m*m=a.nrm) (h:Cw ((a.a+m)*BQ)=true) (h0:(a.a+m)*BQ≠0):CZ a=true:=by
 have hx:=OK h;generalize CY ((a.a+m)*BQ)=x at hx
 have hx0:x≠0:=fun e=>h0 (by rw [← hx,e,Rg.mul_zero])
 have hxi:=FD.mul_inv x hx0;have hn:=wM a;rw [← hm] at hn;have hyx:x*(a.b*BQ*FD.inv x)=a.b*BQ:=by
  have:x*(a.b*BQ*FD.inv x)=a.b*BQ*(x*FD.inv x):=ring [x,a.b,BQ,FD.inv x] dm
  rw [this,hxi,Rg.mul_one]
 generalize a.b*BQ*FD.inv x=y at hyx
 refine Ij.2 ⟨⟨x,y⟩,Qx.ext ?_ ?_⟩
 ·show x*x+-1*(y*y)=a.a;refine Aa.1 (Pr h0 ?_)
  rw [← hx];have e1:x*x*(x*x+-1*(y*y)-a.a)=(x*x)*(x*x)-(x*x)*a.a-(x*y)*(x*y):=ring [x,y,a.a] dm
  rw [e1,hyx,hx];have e2:(a.a+m)*BQ*((a.a+m)*BQ)-(a.a+m)*BQ*a.a-a.b*BQ*(a.b*BQ)=(m*m-(a.a*a.a+a.b*a.b))*(BQ*BQ)+(a.a+m)*BQ*a.a*(BQ+BQ)-(a.a+m)*BQ*a.a:=ring [a.a,a.b,m,BQ] dm
  rw [e2,← hn,ABA,Rg.mul_one];exact ring [a.a,m,BQ] (a:=(m*m-m*m)*(BQ*BQ)+(a.a+m)*BQ*a.a-(a.a+m)*BQ*a.a) (b:=0) dm
 ·show x*y+y*x=a.b;have e1:x*y+y*x=x*y+x*y:=ring [x,y] dm
  rw [e1,hyx];have e2:a.b*BQ+a.b*BQ=a.b*(BQ+BQ):=ring [a.b,BQ] dm
  rw [e2,ABA,Rg.mul_one]
theorem ABB {a:gw} (h:Cw a.nrm=true):CZ a=true:=by
 have hm:=OK h;generalize CY a.nrm=n at hm
 have hn:=wM a;by_cases hb:a.b=0
 ·by_cases ha:a.a=0
  ·exact Ij.2 ⟨0,Qx.ext (by rw [ha];exact ring [] (a:=(0:FP)*0+-1*(0*0)) (b:=0) dm) (by rw [hb];exact ring [] (a:=(0:FP)*0+0*0) (b:=0) dm)⟩
  ·cases hi:Cw a.a with
   | true =>
    have hx:=OK hi;refine Ij.2 ⟨⟨CY a.a,0⟩,Qx.ext ?_ ?_⟩
    ·show CY a.a*CY a.a+-1*(0*0)=a.a;rw [hx];exact ring [a.a] (a:=a.a+-1*(0*0)) (b:=a.a) dm
    ·show CY a.a*0+0*CY a.a=a.b;rw [hb];exact ring [CY a.a] (a:=CY a.a*0+0*CY a.a) (b:=0) dm
   | false =>
    have e:-a.a=-1*a.a:=ring [a.a] dm
    have hi':Cw (-a.a)=true:=by rw [e,lN (by rw [← e];exact fun q=>ha (VG.1 q)),ALi,hi];rfl
    have hx:=OK hi';refine Ij.2 ⟨⟨0,CY (-a.a)⟩,Qx.ext ?_ ?_⟩
    ·show 0*0+-1*(CY (-a.a)*CY (-a.a))=a.a;rw [hx];exact ring [a.a] (a:=0*0+-1*-a.a) (b:=a.a) dm
    ·show 0*CY (-a.a)+CY (-a.a)*0=a.b;rw [hb];exact ring [CY (-a.a)] (a:=0*CY (-a.a)+CY (-a.a)*0) (b:=0) dm
 ·have hb0:a.b*BQ≠0:=DC hb fun e=>ALj (by rw [← ABA,e];exact ring [] (a:=(0:FP)+0) (b:=0) dm)
  have hp:(a.a+n)*BQ*((a.a+-n)*BQ)=-(a.b*BQ*(a.b*BQ)):=by
   have e:(a.a+n)*BQ*((a.a+-n)*BQ)=(a.a*a.a+a.b*a.b-n*n)*(BQ*BQ)-a.b*BQ*(a.b*BQ):=ring [a.a,a.b,n,BQ] dm
   rw [e,hm,hn];exact ring [a.a,a.b,BQ] (a:=(a.a*a.a+a.b*a.b-(a.a*a.a+a.b*a.b))*(BQ*BQ)-a.b*BQ*(a.b*BQ)) (b:=-(a.b*BQ*(a.b*BQ))) dm
  have jd:(a.a+n)*BQ*((a.a+-n)*BQ)≠0:=by rw [hp];exact fun q=>DC hb0 hb0 (VG.1 q)
  have hs:=lN jd;rw [hp,AkS hb0] at hs;cases hA:Cw ((a.a+n)*BQ) with
  | true=>exact ALk hm hA fun e=>jd (by rw [e,Rg.zero_mul])
  | false =>
   rw [hA] at hs;have hB:Cw ((a.a+-n)*BQ)=true:=by
    cases hB:Cw ((a.a+-n)*BQ) with
    | true=>rfl
    | false=>rw [hB] at hs;cases hs
   exact ALk (m:=-n) (by rw [← hm];exact ring [n] dm) hB fun e=>jd (by rw [e,Rg.mul_zero])
theorem AkU {a:gw} (h:CZ a=false):a.nrm≠0:=fun e=>by
 have:CZ a=true:=ABB (by rw [e];exact My (y:=0) (ring [] (a:=(0:FP)*0) (b:=0) dm))
 rw [this] at h;cases h
theorem AkV {a b:gw} (ha:CZ a=false) (hb:Cw b.nrm=false):CZ (b*a)=true:=by
 have h1:Cw a.nrm=false:=by
  cases h:Cw a.nrm with
  | false=>rfl
  | true=>rw [ABB h] at ha;cases ha
 have h2:b.nrm≠0:=fun e=>by
  rw [e,My (y:=0) (ring [] (a:=(0:FP)*0) (b:=0) dm)] at hb;cases hb
 refine ABB ?_
 have e:=Qx.nrm_mul b a;rw [e,lN (DC h2 (AkU ha)),h1,hb];rfl
theorem ALl {a c:gw} (h:CZ a=true):CZ (c*c*a)=true:=by
 obtain ⟨s,hs⟩:=Ij.1 h;exact Ij.2 ⟨c*s,by rw [← hs];exact ring [c,s] dm⟩
theorem AkW (x:FP):x*x≠tf 5:=wH (YV k2 wJ dp dm dp) dp x
theorem AkX:Cw zF.nrm=false:=by
 have e:zF.nrm=tf 5:=dm
 cases h:Cw zF.nrm with
 | false=>rfl
 | true=>obtain ⟨y,hy⟩:=AHF.1 h;exact absurd (hy.trans e) (AkW y)
def lO:gw:=⟨tf 0x1a59d4b6bbf912a32d63b43028e2deeebe8d5d97ca64b6d66f64ac7a265a9305e1a40da5edb81b4e3ac4f5c28f5bd27,tf 0x15103a07f641331bb298f5ed3ba1230aa0bcc9f87d923077324df24a0f7ffa93045d3d6f94c17ae10efa11eb851e7336⟩
def kzS:gw:=⟨tf 0x1776b5d3dd70bb2ac6e46be0849209c9c47853350da878bdc14a5042102f1f01cbc75043b8d13d709dd5ca27f92cb390,tf 0x2c094c100c4f8a157767045bc04279dd04f207fbddc4de6675911b512cddacc0061215698453b5b11125516029e4d21⟩
theorem AkZ:bF*FD.inv (zF*aF)=lO:=by
 have h:zF*aF*lO=bF:=dm
 have h0:zF*aF≠0:=qa (by kernel_rfl:decide (zF*aF=0)=false)
 exact YH h0 h
theorem Aka:CZ (Cr lO)=true:=Ij.2 ⟨kzS,dm⟩
theorem Akb:aF≠0:=qa (by kernel_rfl:decide (aF=0)=false)
theorem Akc {w:gw} (ht:w*w+w≠0) {x:gw} (hx:x=-(bF*FD.inv aF)*(1+FD.inv (w*w+w))):Cr (w*x)=w*w*(w*Cr x):=by
 have ha:=FD.mul_inv aF Akb;have hti:=FD.mul_inv (w*w+w) ht
 have h1:aF*x*(w*w+w)=-(bF*(w*w+w+1)):=by
  have e:aF*(-(bF*FD.inv aF)*(1+FD.inv (w*w+w)))*(w*w+w)=-(bF*(aF*FD.inv aF)*(w*w+w+(w*w+w)*FD.inv (w*w+w))):=ring [aF,bF,FD.inv aF,FD.inv (w*w+w),w] dm
  rw [hx,e,ha,hti,Rg.mul_one]
 have e:Cr (w*x)-w*w*(w*Cr x)=(1-w)*(aF*x*(w*w+w)+bF*(w*w+w+1)):=ring [w,x,aF,bF] (a:=w*x*(w*x)*(w*x)+aF*(w*x)+bF-w*w*(w*(x*x*x+aF*x+bF))) dm
 refine Aa.1 (e.trans ?_)
 rw [h1];exact ring [w,bF] (a:=(1-w)*(-(bF*(w*w+w+1))+bF*(w*w+w+1))) (b:=0) dm
theorem Akd (u:gw):CZ (Cr (Iy u))=true:=by
 unfold Iy;cases h:CZ (Cr (IF u)) with
 | true=>exact h
 | false =>
  show CZ (Cr (wF u*IF u))=true;by_cases ht:tF u=0
  ·have:IF u=lO:=by
    unfold IF F6;rw [jm ht];exact AkZ
   rw [this,Aka] at h;cases h
  ·have hx:IF u=-(bF*FD.inv aF)*(1+FD.inv (tF u)):=by
    unfold IF F6;rw [jq ht];rfl
   rw [Akc (w:=wF u) ht hx];refine ALl ?_
   have e:wF u*Cr (IF u)=u*u*(zF*Cr (IF u)):=ring [u,zF,Cr (IF u)] (a:=zF*(u*u)*Cr (IF u)) dm
   rw [e];exact ALl (AkV h AkX)
theorem Ake (u:gw):Qm u*Qm u=Cr (Iy u):=by
 have h:=AHI (Akd u)
 unfold Qm lB;split
 ·have e:-(EZ (Cr (Iy u)))*-(EZ (Cr (Iy u)))=EZ (Cr (Iy u))*EZ (Cr (Iy u)):=ring [EZ (Cr (Iy u))] dm
  rw [e,h]
 ·exact h
end
noncomputable section
def Bq:List gw→gw→gw
 | [],_=>0
 | c::r,x=>c+x*Bq r x
def WP:List gw→List gw→List gw
 | [],q=>q
 | p,[]=>p
 | c::p,d::q=>(c+d)::WP p q
def WQ (c:gw):List gw→List gw
 | []=>[]
 | d::q=>c*d::WQ c q
def JY:List gw→List gw→List gw
 | [],_=>[]
 | c::p,q=>WP (WQ c q) (0::JY p q)
theorem ABC (x:gw):∀ p q:List gw,Bq (WP p q) x=Bq p x+Bq q x
 | [],q=>ring [Bq q x] (a:=Bq q x) (b:=0+Bq q x) dm
 | c::p,[]=>ring [Bq (c::p) x] (a:=Bq (c::p) x) (b:=Bq (c::p) x+0) dm
 | c::p,d::q=>by
  show c+d+x*Bq (WP p q) x=c+x*Bq p x+(d+x*Bq q x);rw [ABC x p q];exact ring [c,d,x,Bq p x,Bq q x] (a:=c+d+x*(Bq p x+Bq q x)) dm
theorem ABD (c x:gw):∀ q:List gw,Bq (WQ c q) x=c*Bq q x
 | []=>ring [c] (a:=0) (b:=c*0) dm
 | d::q=>by
  show c*d+x*Bq (WQ c q) x=c*(d+x*Bq q x);rw [ABD c x q];exact ring [c,d,x,Bq q x] (a:=c*d+x*(c*Bq q x)) dm
theorem NL (x:gw):∀ p q:List gw,Bq (JY p q) x=Bq p x*Bq q x
 | [],q=>ring [Bq q x] (a:=0) (b:=0*Bq q x) dm
 | c::p,q=>by
  show Bq (WP (WQ c q) (0::JY p q)) x=(c+x*Bq p x)*Bq q x;rw [ABC,ABD];show c*Bq q x+(0+x*Bq (JY p q) x)=_;rw [NL x p q];exact ring [c,x,Bq p x,Bq q x] (a:=c*Bq q x+(0+x*(Bq p x*Bq q x))) dm
theorem lP (x a b c d:gw):TY x a b c d=Bq [a,b,c,d] x:=ring [x,a,b,c,d] (a:=(((0*x+d)*x+c)*x+b)*x+a) (b:=a+x*(b+x*(c+x*(d+x*0)))) dm
def lR:List gw:=[mo i1a,mo i1b,mo i1c,mo i1d]
def Te:List gw:=[mo lG,mo lH,mo lI,0]
def pN3:List gw:=[mo i3a,mo i3b,mo i3c,mo i3d]
def pD4:List gw:=[mo i4a,mo i4b,mo i4c,mo i4d]
def pSd:List gw:=[bF,aF,0,1]
theorem Akf (x:gw):Cr x=Bq pSd x:=ring [x,aF,bF] (a:=x*x*x+aF*x+bF) (b:=bF+x*(aF+x*(0+x*(1+x*0)))) dm
def lS:List gw→Bool
 | []=>true
 | d::q=>decide (d=0)&&lS q
def pz:List gw→List gw→Bool
 | [],q=>lS q
 | c::p,q=>match q with
  | []=>decide (c=0)&&pz p []
  | d::q=>decide (c=d)&&pz p q
theorem ALn (x:gw):∀ q:List gw,lS q=true→Bq q x=0
 | [],_=>rfl
 | d::q,h=>by
  have h:=jy.1 (show (decide (d=0)&&lS q)=true from h)
  show d+x*Bq q x=0;rw [kj h.1,ALn x q h.2];exact ring [x] (a:=0+x*0) (b:=0) dm
theorem lU (x:gw):∀ p q:List gw,pz p q=true→Bq p x=Bq q x
 | [],q,h=>(ALn x q h).symm
 | c::p,[],h=>by
  have h:=jy.1 (show (decide (c=0)&&pz p [])=true from h)
  show c+x*Bq p x=0;rw [kj h.1,lU x p [] h.2]
  exact ring [x] (a:=0+x*0) (b:=0) dm
 | c::p,d::q,h=>by
  have h:=jy.1 (show (decide (c=d)&&pz p q)=true from h)
  show c+x*Bq p x=d+x*Bq q x;rw [kj h.1,lU x p q h.2]
theorem Akg:pz (JY (JY Te Te) Te) (JY pD4 pD4)=true:=dm
theorem Akh:pz (JY pSd (JY pN3 pN3)) (WP (JY (JY lR lR) lR) (WQ C2.b (JY (JY Te Te) Te)))=true:=dm
theorem Aki (x:gw):E3 1 x=Bq lR x:=lP ..
theorem Akj (x:gw):E3 2 x=Bq Te x:=lP ..
theorem Akk (x:gw):E3 3 x=Bq pN3 x:=lP ..
theorem Akl (x:gw):E3 4 x=Bq pD4 x:=lP ..
theorem Akm {s b n1 d2 n3 d4 y:gw} (hd:d2*d2*d2=d4*d4) (hn:s*(n3*n3)=n1*n1*n1+b*(d2*d2*d2)) (h2:d2≠0) (h4:d4≠0) (hy:y*y=s) :
  y*(n3*FD.inv d4)*(y*(n3*FD.inv d4))=n1*FD.inv d2*(n1*FD.inv d2)*(n1*FD.inv d2)+b:=by
 have i2:=FD.mul_inv d2 h2;have i4:=FD.mul_inv d4 h4;refine JM (DC h4 h4) ?_
 have e1:d4*d4*(y*(n3*FD.inv d4)*(y*(n3*FD.inv d4)))=y*y*(n3*n3)*(d4*FD.inv d4*(d4*FD.inv d4)):=ring [y,n3,d4,FD.inv d4] dm
 have e2:d2*d2*d2*(n1*FD.inv d2*(n1*FD.inv d2)*(n1*FD.inv d2)+b)=n1*n1*n1*(d2*FD.inv d2*(d2*FD.inv d2)*(d2*FD.inv d2))+b*(d2*d2*d2):=ring [n1,d2,FD.inv d2,b] dm
 rw [e1,← hd,e2,i2,i4,hy,Rg.mul_one,Rg.mul_one,Rg.mul_one,Rg.mul_one,hn]
theorem Akn {p1 p2 p3 p4 y s:gw} (hd:p2*p2*p2=p4*p4) (hn:s*(p3*p3)=p1*p1*p1+C2.b*(p2*p2*p2)) (hy:y*y=s):On C2.b (Za p1 p2 p3 p4 y):=by
 unfold Za;cases h2:decide (p2=0) with
 | true=>trivial
 | false=>cases h4:decide (p4=0) with
  | true=>trivial
  | false=>exact Akm hd hn (qa h2) (qa h4) hy
theorem Ako {x y:gw} (h:y*y=Cr x):On C2.b (Qo x y):=by
 unfold Qo;rw [Aki,Akj,Akk,Akl];have hd:=lU x _ _ Akg;have hn:=lU x _ _ Akh;rw [NL,NL,NL] at hd;rw [NL,NL,ABC,NL,NL,ABD,NL,NL,← Akf] at hn;exact Akn hd hn h
theorem ALo (u:gw):On C2.b (TZ (MB u).1 (MB u).2):=by
 rw [AA7,ALK];exact Ako (Ake u)
theorem rhN:rQ*AI hcL % f_=0:=dm
theorem Akq {p:P2} (hp:On C2.b p) (n:Nat) (h:oN∣n):smul n p=.inf:=by
 obtain ⟨k,rfl⟩:=h;rw [JP C2 hp,Aeq hp];exact Gz k
theorem Akr {p:P2} (hp:On C2.b p):On C2.b (Ew O3 p)∧smul rN (Ew O3 p)=.inf:=by
 have e:Ew O3 p=smul O3 p:=jo ((LU p).2 hp)
 rw [e];refine ⟨CE C2 hp _,?_⟩
 rw [← JP C2 hp];refine Akq hp _ ?_
 rw [Y9,AA8,rN_eq];exact sd (by rw [ko];exact rhN)
theorem Aks (u v:gw):On C2.b (Ta u v)∧smul rN (Ta u v)=.inf:=by
 rw [ALZ];exact Akr (If C2 (ALo u) (ALo v))
theorem Akt (x d:dt):On C2.b (Td x d)∧smul rN (Td x d)=.inf:=by
 rw [ALe];exact Aks _ _
end
noncomputable def SDb00:dw:=(274,BF dr oCf0 f274 300)::(273,BF dr oCf0 f273 300)::(293,BF dr oCf0 f293 300)::SCf0
theorem ALp:AX dr SDb00:=⟨BJ L_ AB func274 dm dm 300,BJ L_ AB func273 dm dm 300,BJ L_ AB func293 dm dm 300,k7⟩
noncomputable abbrev oDb00:ia:=AG SDb00 KV
theorem Aku:g_ dr oDb00:=AH ALp BR
noncomputable def SDb0:dw:=(286,BF dr oDb00 f286 300)::SDb00
theorem Akv:AX dr SDb0:=⟨BJ Aku AB func286 dm dm 300,ALp⟩
noncomputable abbrev oDb0:ia:=AG SDb0 KV
theorem Ke:g_ dr oDb0:=AH Akv BR
noncomputable section
def lV (a1 a2 b1 b2 p q:R gw):R gw:=su gw (mu gw (ad gw a1 a2) (ad gw b1 b2)) (ad gw p q)
def Tf (x y:R gw):R gw:=ad gw (ad gw Bo x) y
section
variable (r s:R gy) (k:R gw)
theorem Akw:AJ dr oDb0 f229 [va gy r,va gy s] [] 300=some ([],va gy (ad gy r s)):=dm
theorem Akx:AJ dr oDb0 f231 [va gy r,va gy s] [] 300=some ([],va gy (su gy r s)):=dm
theorem Aky:AJ dr oDb0 f125 [va gy r,va gy s] [] 300=some ([],va gy (ad gy r s)):=dm
theorem Akz:AJ dr oDb0 f253 [va gy r] [] 300=some ([],va gy (re gy r)):=dm
theorem Ak0:AJ dr oDb0 f254 [va gy r] [] 300=some ([],va gy (ng gy r)):=dm
theorem Ak1:AJ dr oDb0 f267 [va gy r] [] 300=some ([],va gy (re gy r)):=dm
theorem Ak2:AJ dr oDb0 f268 [va gy r] [] 300=some ([],va gy (ng gy r)):=dm
def vR6 (r:R gy):R gy:=(mx r.2.2,re gw r.1,re gw r.2.1)
def NM (r:R gy) (k:R gw):R gy:=(mu gw r.1 k,mu gw r.2.1 k,mu gw r.2.2 k)
theorem Ak3:AJ dr oDb0 f230 [va gy r] [] 300=some ([],va gy (vR6 r)):=dm
theorem Ak4:AJ dr oDb0 f287 [va gy r,va gw k] [] 300=some ([],va gy (NM r k)):=dm
theorem Ak5:AJ dr oDb0 f284 [va gy r,va gw k] [] 300=some ([],va gy (NM r k)):=dm
def ABH (r s:R gy):R gy :=
 (Tf (mu gw r.1 s.1) (mx (lV r.2.1 r.2.2 s.2.1 s.2.2 (mu gw r.2.1 s.2.1) (mu gw r.2.2 s.2.2))),
 Tf (lV r.1 r.2.1 s.1 s.2.1 (mu gw r.1 s.1) (mu gw r.2.1 s.2.1)) (mx (mu gw r.2.2 s.2.2)),
 Tf (lV r.1 r.2.2 s.1 s.2.2 (mu gw r.1 s.1) (mu gw r.2.2 s.2.2)) (mu gw r.2.1 s.2.1))
def ABI (r s:R gy):R gy :=
 (ad gw (ad gw Bo (mu gw r.1 s.1)) (mx (ad gw (ad gw Bo (mu gw r.2.1 s.2.2)) (mu gw r.2.2 s.2.1))),
 ad gw (ad gw (ad gw Bo (mu gw r.1 s.2.1)) (mu gw r.2.1 s.1)) (mx (ad gw Bo (mu gw r.2.2 s.2.2))),
 ad gw (ad gw (ad gw Bo (mu gw r.1 s.2.2)) (mu gw r.2.1 s.2.1)) (mu gw r.2.2 s.1))
theorem Ak6:AJ dr oDb0 f227 [va gy r,va gy s] [true,true,false,true,true,false,true,true,false] 600=some (tt 5 ((false,false)::tt 5 ((false,false)::tt 5 ((false,false)::[]))),va gy (ABH r s)):=dm
theorem Ak7:AJ dr oDb0 f126 [va gy r,va gy s] [] 900=some ([],va gy (ABI r s)):=dm
end
theorem Ak8 (r s:R gy):ABH r s=mu gy r s:=by
 obtain ⟨a,b,c⟩:=r;obtain ⟨d,e,f⟩:=s;refine nc ?_ (nc ?_ ?_)<;>simp only [ABH,Tf,lV,mx,ad,su,mu,mo_en,Qk]
 ·exact jw (en (α:=gw)) (ring [mo a,mo b,mo c,mo d,mo e,mo f,xi] (a:=0+mo a*mo d+((mo b+mo c)*(mo e+mo f)-(mo b*mo e+mo c*mo f))*xi) (b:=mo a*mo d+xi*(mo b*mo f+mo c*mo e)) dm)
 ·exact jw (en (α:=gw)) (ring [mo a,mo b,mo c,mo d,mo e,mo f,xi] (a:=0+((mo a+mo b)*(mo d+mo e)-(mo a*mo d+mo b*mo e))+mo c*mo f*xi) (b:=mo a*mo e+mo b*mo d+xi*(mo c*mo f)) dm)
 ·exact jw (en (α:=gw)) (ring [mo a,mo b,mo c,mo d,mo e,mo f,xi] (a:=0+((mo a+mo c)*(mo d+mo f)-(mo a*mo d+mo c*mo f))+mo b*mo e) (b:=mo a*mo f+mo b*mo e+mo c*mo d) dm)
theorem Ak9 (r s:R gy):ABI r s=mu gy r s:=by
 obtain ⟨a,b,c⟩:=r;obtain ⟨d,e,f⟩:=s;refine nc ?_ (nc ?_ ?_)<;>simp only [ABI,mx,ad,mu,mo_en,Qk]
 ·exact jw (en (α:=gw)) (ring [mo a,mo b,mo c,mo d,mo e,mo f,xi] (a:=0+mo a*mo d+(0+mo b*mo f+mo c*mo e)*xi) (b:=mo a*mo d+xi*(mo b*mo f+mo c*mo e)) dm)
 ·exact jw (en (α:=gw)) (ring [mo a,mo b,mo c,mo d,mo e,mo f,xi] (a:=0+mo a*mo e+mo b*mo d+(0+mo c*mo f)*xi) (b:=mo a*mo e+mo b*mo d+xi*(mo c*mo f)) dm)
 ·exact jw (en (α:=gw)) (ring [mo a,mo b,mo c,mo d,mo e,mo f,xi] (a:=0+mo a*mo f+mo b*mo e+mo c*mo d) (b:=mo a*mo f+mo b*mo e+mo c*mo d) dm)
end
noncomputable section
def vM (r:R gy):R gy:=en ((mo r:gy)*vv)
theorem Ak_ (r:R gy):vR6 r=vM r:=by
 obtain ⟨a,b,c⟩:=r;refine nc ?_ (nc ?_ ?_)<;>simp only [vR6,mx,re]
 ·exact jw (en (α:=gw)) (ring [mo a,mo b,mo c,xi] (a:=mo c*xi) (b:=mo a*0+xi*(mo b*0+mo c*1)) dm)
 ·exact jw (en (α:=gw)) (ring [mo a,mo b,mo c,xi] (a:=mo a) (b:=mo a*1+mo b*0+xi*(mo c*0)) dm)
 ·exact jw (en (α:=gw)) (ring [mo a,mo b,mo c,xi] (a:=mo b) (b:=mo a*0+mo b*1+mo c*0) dm)
def SDc:dw:=(229,Af (DO gy gy fun r s=>va gy (ad gy r s)))::(231,Af (DO gy gy fun r s=>va gy (su gy r s)))::(125,Af (DO gy gy fun r s=>va gy (ad gy r s)))::(253,Af (BZ gy fun r=>va gy (re gy r)))::(254,Af (BZ gy fun r=>va gy (ng gy r)))::(267,Af (BZ gy fun r=>va gy (re gy r)))::(268,Af (BZ gy fun r=>va gy (ng gy r)))::(230,Af (BZ gy fun r=>va gy (vM r)))::(287,Af (DO gy gw fun r k=>va gy (NM r k)))::(284,Af (DO gy gw fun r k=>va gy (NM r k)))::(227,Af (DO gy gy fun r s=>va gy (mu gy r s)))::(126,Af (DO gy gy fun r s=>va gy (mu gy r s)))::SCf0
theorem ALq:AX dr SDc:=⟨Ah func229 dm dm (DX fun r s=>AN Ke AB func229 (Akw r s) trivial rfl),Ah func231 dm dm (DX fun r s=>AN Ke AB func231 (Akx r s) trivial rfl),Ah func125 dm dm (DX fun r s=>AN Ke AB func125 (Aky r s) trivial rfl),Ah func253 dm dm (Bi fun r=>AN Ke AB func253 (Akz r) trivial rfl),Ah func254 dm dm (Bi fun r=>AN Ke AB func254 (Ak0 r) trivial rfl),Ah func267 dm dm (Bi fun r=>AN Ke AB func267 (Ak1 r) trivial rfl),Ah func268 dm dm (Bi fun r=>AN Ke AB func268 (Ak2 r) trivial rfl),Ah func230 dm dm (Bi fun r=>by rw [← Ak_];exact AN Ke AB func230 (Ak3 r) trivial rfl),Ah func287 dm dm (DX fun r s=>AN Ke AB func287 (Ak4 r s) trivial rfl),Ah func284 dm dm (DX fun r s=>AN Ke AB func284 (Ak5 r s) trivial rfl),Ah func227 dm dm (DX fun r s=>by rw [← Ak8];exact AN Ke AB func227 (Ak6 r s) (AY 5 ⟨rfl,AY 5 ⟨rfl,AY 5 ⟨rfl,trivial⟩⟩⟩) rfl),Ah func126 dm dm (DX fun r s=>by rw [← Ak9];exact AN Ke AB func126 (Ak7 r s) trivial rfl),k7⟩
end
noncomputable section
def SDd0:dw:=(274,BF dr oCf0 f274 300)::SDc
theorem Ak':AX dr SDd0:=⟨BJ L_ AB func274 dm dm 300,ALq⟩
abbrev oDd0:ia:=AG SDd0 KV
theorem ABJ:g_ dr oDd0:=AH Ak' BR
def lW (r:R gy):R gw:=su gw (mu gw r.1 r.1) (mx (mu gw r.2.1 r.2.2))
def lX (r:R gy):R gw:=su gw (mx (mu gw r.2.2 r.2.2)) (mu gw r.1 r.2.1)
def lY (r:R gy):R gw:=su gw (mu gw r.2.1 r.2.1) (mu gw r.1 r.2.2)
def O4 (r:R gy):R gy:=(lW r,lX r,lY r)
def l5 (r:R gy):R gw:=Tf (mu gw r.1 (lW r)) (mx (Tf (mu gw r.2.2 (lX r)) (mu gw r.2.1 (lY r))))
def kvR:R gy:=(Bo,oR,Bo)
section
variable (r:R gy)
theorem AlA:AJ dr oDd0 f269 [va gy r] [true,true,false,true,true,false] 600=some (tt 5 ((false,false)::tt 5 ((false,false)::[])),va gy (NM (O4 r) (iv gw (l5 r)))):=dm
theorem AlB:AJ dr oDd0 f255 [va gy r] [] 600=some ([],va gy (NM (O4 r) (iv gw (mu gy r (O4 r)).1))):=dm
theorem AlC:AJ dr oDd0 f127 [va gy r] [] 600=some ([],va gy (mu gy r kvR)):=dm
end
theorem l6 (r:R gy):O4 r=en (mo r:gy).adj:=by
 obtain ⟨a,b,c⟩:=r;refine nc ?_ (nc ?_ ?_)<;>simp only [O4,lW,lX,lY,mx,su,mu,mo_en]
 ·exact jw (en (α:=gw)) (ring [mo a,mo b,mo c,xi] (a:=mo a*mo a-mo b*mo c*xi) (b:=mo a*mo a-xi*(mo b*mo c)) dm)
 ·exact jw (en (α:=gw)) (ring [mo a,mo b,mo c,xi] (a:=mo c*mo c*xi-mo a*mo b) (b:=xi*(mo c*mo c)-mo a*mo b) dm)
 ·rfl
theorem AlD (r:R gy):l5 r=en (mo r:gy).nrm:=by
 have e:=l6 r;have e1:lW r=en (mo r:gy).adj.a:=jw Prod.fst e
 have e2:lX r=en (mo r:gy).adj.b:=jw (fun z=>z.2.1) e
 have e3:lY r=en (mo r:gy).adj.c:=jw (fun z=>z.2.2) e
 obtain ⟨a,b,c⟩:=r;simp only [l5,e1,e2,e3,Tf,mx,ad,mu,mo_en,Qk];show en (_:gw)=en (mo a*(mo (a,b,c):gy).adj.a+xi*(mo c*(mo (a,b,c):gy).adj.b+mo b*(mo (a,b,c):gy).adj.c):gw);generalize (mo (a,b,c):gy).adj=q at *
 exact jw (en (α:=gw)) (ring [mo a,mo b,mo c,q.a,q.b,q.c,xi] (a:=0+mo a*q.a+(0+mo c*q.b+mo b*q.c)*xi) (b:=mo a*q.a+xi*(mo c*q.b+mo b*q.c)) dm)
theorem ALr (x:gy):NM (en x.adj) (iv gw (en x.nrm))=iv gy (en x):=by
 simp only [NM,iv,mu,mo_en];show _=en (vJ x);exact nc (by rw [show (en x.adj:R gy).1=(en x.adj.a:R gw) from rfl,mo_en];rfl) (nc (by rw [show (en x.adj:R gy).2.1=(en x.adj.b:R gw) from rfl,mo_en];rfl) (by rw [show (en x.adj:R gy).2.2=(en x.adj.c:R gw) from rfl,mo_en];rfl))
theorem ALs (r:R gy):iv gy (en (mo r:gy))=iv gy r:=by unfold iv;rw [mo_en]
theorem AlE (r:R gy):NM (O4 r) (iv gw (l5 r))=iv gy r:=by rw [l6,AlD,ALr,ALs]
theorem AlF (r:R gy):NM (O4 r) (iv gw (mu gy r (O4 r)).1)=iv gy r:=by
 have e:(mu gy r (O4 r)).1=en (mo r:gy).nrm:=by
  rw [l6];unfold mu;rw [mo_en,Kx.mul_adj];rfl
 rw [e,l6,ALr,ALs]
theorem AlG:(mo kvR:gy)=vv:=Kx.ext Qk ZY Qk
theorem e6v (r:R gy):mu gy r kvR=vM r:=by unfold mu vM;rw [AlG]
def SDd:dw:=(269,Af (BZ gy fun r=>va gy (iv gy r)))::(255,Af (BZ gy fun r=>va gy (iv gy r)))::(127,Af (BZ gy fun r=>va gy (vM r)))::SDc
theorem ABL:AX dr SDd:=⟨Ah func269 dm dm (Bi fun r=>by rw [← AlE];exact AN ABJ AB func269 (AlA r) (AY 5 ⟨rfl,AY 5 ⟨rfl,trivial⟩⟩) rfl),Ah func255 dm dm (Bi fun r=>by rw [← AlF];exact AN ABJ AB func255 (AlB r) trivial rfl),Ah func127 dm dm (Bi fun r=>by rw [← e6v];exact AN ABJ AB func127 (AlC r) trivial rfl),ALq⟩
abbrev oDd:ia:=AG SDd KV
theorem AlI:g_ dr oDd:=AH ABL BR
end
noncomputable section
def SDe0:dw:=(228,BF dr oDd f228 300)::SDd
theorem AlJ:AX dr SDe0:=⟨BJ AlI AB func228 dm dm 300,ABL⟩
abbrev oDe0:ia:=AG SDe0 KV
theorem Zd:g_ dr oDe0:=AH AlJ BR
def ABM (r s:R gx):R gx:=(ad gy (mu gy r.1 s.1) (vM (mu gy r.2 s.2)),su gy (mu gy (ad gy r.1 r.2) (ad gy s.1 s.2)) (ad gy (mu gy r.1 s.1) (mu gy r.2 s.2)))
def ABN (r s:R gx):R gx:=(ad gy (mu gy r.1 s.1) (vM (mu gy r.2 s.2)),ad gy (mu gy r.1 s.2) (mu gy r.2 s.1))
def ALt (r:R gx):R gx:=(re gy r.1,ng gy r.2)
def o12:R gx:=((oR,Bo,Bo),(Bo,Bo,Bo))
section
variable (r s:R gx)
theorem AlK:AJ dr oDe0 f270 [va gx r] [] 300=some ([],va gx (re gx r)):=dm
theorem AlL:AJ dr oDe0 f159 [va gx r,va gx s] [] 300=some ([],va gx (ABM r s)):=dm
theorem AlM:AJ dr oDe0 f223 [va gx r] [] 300=some ([],va gx (ALt r)):=dm
theorem AlN:AJ dr oDe0 f57 [va gx r,va gx s] [] 300=some ([],va gx (ABN r s)):=dm
theorem AlO:AJ dr oDe0 f196 [va gx r] [] 300=some ([],va gx (ALt r)):=dm
end
theorem AlP (r s:R gx):ABM r s=mu gx r s:=by
 obtain ⟨a,b⟩:=r;obtain ⟨c,d⟩:=s;refine nc ?_ ?_<;>simp only [ABM,vM,ad,su,mu,mo_en]
 ·exact jw (en (α:=gy)) (ring [mo a,mo b,mo c,mo d,vv] (a:=mo a*mo c+mo b*mo d*vv) (b:=mo a*mo c+vv*(mo b*mo d)) dm)
 ·exact jw (en (α:=gy)) (ring [mo a,mo b,mo c,mo d,vv] (a:=(mo a+mo b)*(mo c+mo d)-(mo a*mo c+mo b*mo d)) (b:=mo a*mo d+mo b*mo c) dm)
theorem AlQ (r s:R gx):ABN r s=mu gx r s:=by
 obtain ⟨a,b⟩:=r;obtain ⟨c,d⟩:=s;refine nc ?_ ?_<;>simp only [ABN,vM,ad,mu,mo_en]
 ·exact jw (en (α:=gy)) (ring [mo a,mo b,mo c,mo d,vv] (a:=mo a*mo c+mo b*mo d*vv) (b:=mo a*mo c+vv*(mo b*mo d)) dm)
 ·rfl
def NN (r:R gx):R gx:=en (Qx.conj (mo r:gx))
def SDe1:dw:=(159,Af (DO gx gx fun r s=>va gx (mu gx r s)))::(57,Af (DO gx gx fun r s=>va gx (mu gx r s)))::(270,Af (BZ gx fun r=>va gx (re gx r)))::(223,Af (BZ gx fun r=>va gx (NN r)))::(196,Af (BZ gx fun r=>va gx (NN r)))::SDd
theorem ALu:AX dr SDe1:=⟨Ah func159 dm dm (DX fun r s=>by rw [← AlP];exact AN Zd AB func159 (AlL r s) trivial rfl),Ah func57 dm dm (DX fun r s=>by rw [← AlQ];exact AN Zd AB func57 (AlN r s) trivial rfl),Ah func270 dm dm (Bi fun r=>AN Zd AB func270 (AlK r) trivial rfl),Ah func223 dm dm (Bi fun r=>AN Zd AB func223 (AlM r) trivial rfl),Ah func196 dm dm (Bi fun r=>AN Zd AB func196 (AlO r) trivial rfl),ABL⟩
abbrev oDe1:ia:=AG SDe1 KV
theorem ALv:g_ dr oDe1:=AH ALu BR
def l7 (r:R gx):R gx:=(mu gy r.1 (iv gy (su gy (mu gy r.1 r.1) (vM (mu gy r.2 r.2)))),ng gy (mu gy r.2 (iv gy (su gy (mu gy r.1 r.1) (vM (mu gy r.2 r.2))))))
def ABO (r:R gx):R gx:=(mu gy (NN r).1 (iv gy (mu gx r (NN r)).1),mu gy (NN r).2 (iv gy (mu gx r (NN r)).1))
section
variable (r:R gx)
theorem AlR:AJ dr oDe1 f224 [va gx r] [] 300=some ([],va gx (l7 r)):=dm
theorem AlS:AJ dr oDe1 f197 [va gx r] [] 300=some ([],va gx (ABO r)):=dm
end
end
noncomputable section
theorem AlT (x:gx):(FD.inv x:gx)=U5 x:=rfl
theorem AlU (x:gx):(en x:R gx)=(en x.a,en x.b):=rfl
theorem AlV (x:gx):(U5 x).a=x.a*FD.inv x.nrm:=dm
theorem AlW (x:gx):(U5 x).b=-x.b*FD.inv x.nrm:=dm
theorem ALw (x:gx):(en (FD.inv x):R gx)=(en (x.a*FD.inv x.nrm),en (-x.b*FD.inv x.nrm)):=by
 rw [← AlV,← AlW,AlT];exact AlU _
theorem ABP (a b:R gy):(mo ((a,b):R gx):gx).a=mo a:=rfl
theorem ABQ (a b:R gy):(mo ((a,b):R gx):gx).b=mo b:=rfl
theorem AlX (x y:gy):x*x-y*y*vv=x*x-vv*(y*y):=ring [x,y,vv] (a:=x*x-y*y*vv) (b:=x*x-vv*(y*y)) dm
theorem AlY (x:gx):x.nrm=x.a*x.a-vv*(x.b*x.b):=dm
theorem n12 (a b:R gy):(mo a:gy)*mo a-mo b*mo b*vv=(mo ((a,b):R gx):gx).nrm:=by rw [AlX,AlY,ABP,ABQ]
theorem Ala (x i:gy):-(x*i)=-x*i:=ring [x,i] (a:=-(x*i)) (b:=-x*i) dm
theorem Alb (r:R gx):l7 r=iv gx r:=by
 obtain ⟨a,b⟩:=r;have e:l7 (a,b)=(en (mo a*FD.inv (mo ((a,b):R gx):gx).nrm),en (-(mo b*FD.inv (mo ((a,b):R gx):gx).nrm))):=by
  simp only [l7,vM,su,ng,iv,mu,mo_en,n12]
 rw [e,Ala];have h:=ALw (mo ((a,b):R gx))
 rw [ABP,ABQ] at h;exact h.symm
theorem Alc (a b:R gy):(NN (a,b)).1=en (mo a:gy):=rfl
theorem Ald (a b:R gy):(NN (a,b)).2=en (-mo b:gy):=rfl
theorem Ale (x:gy) (y:gy):(en (⟨x,y⟩:gx):R gx).1=en x:=rfl
theorem Alf (r:R gx):(mu gx r (NN r)).1=en (mo r:gx).nrm:=by
 unfold mu NN;rw [mo_en,Qx.mul_conj];exact Ale _ _
theorem Alg (r:R gx):ABO r=iv gx r:=by
 unfold ABO;rw [Alf];obtain ⟨a,b⟩:=r;have h:=ALw (mo ((a,b):R gx))
 rw [ABP,ABQ] at h;rw [Alc,Ald];unfold mu iv;rw [mo_en,mo_en,mo_en,mo_en];exact h.symm
def SDf:dw:=(224,Af (BZ gx fun r=>va gx (iv gx r)))::(197,Af (BZ gx fun r=>va gx (iv gx r)))::SDe1
theorem ABR:AX dr SDf:=⟨Ah func224 dm dm (Bi fun r=>by rw [← Alb];exact AN ALv AB func224 (AlR r) trivial rfl),Ah func197 dm dm (Bi fun r=>by rw [← Alg];exact AN ALv AB func197 (AlS r) trivial rfl),ALu⟩
abbrev oDf:ia:=AG SDf KV
theorem ALx:g_ dr oDf:=AH ABR BR
end
noncomputable section
def SDg0:dw:=(288,BF dr oDf f288 300)::(289,BF dr oDf f289 300)::SDf
theorem Alh:AX dr SDg0:=⟨BJ ALx AB func288 dm dm 300,BJ ALx AB func289 dm dm 300,ABR⟩
abbrev oDg0:ia:=AG SDg0 KV
theorem ALy:g_ dr oDg0:=AH Alh BR
def ALz:R gw:=((1:Nat),(0:Nat))
def AL0:R gw:=((3850754370037169011952147076051364057158807420970682438676050522613628423219637725072182697113062777891589506424760:Nat),(151655185184498381465642749684540099398075398968325446656007613510403227271200139370504932015952886146304766135027:Nat))
def AL1:R gw:=((0:Nat),(4002409555221667392624310435006688643935503118305586438271171395842971157480381377015405980053539358417135540939436:Nat))
def AL2:R gw:=((1028732146235106349975324479215795277384839936929757896155643118032610843298655225875571310552543014690878354869257:Nat),(1028732146235106349975324479215795277384839936929757896155643118032610843298655225875571310552543014690878354869257:Nat))
def AL3:R gw:=((4002409555221667392624310435006688643935503118305586438271171395842971157480381377015405980053539358417135540939437:Nat),(0:Nat))
def AL4:R gw:=((877076961050607968509681729531255177986764537961432449499635504522207616027455086505066378536590128544573588734230:Nat),(3125332594171059424908108096204648978570118281977575435832422631601824034463382777937621250592425535493320683825557:Nat))
def fbR (r:R gx):R gx:=((mu gw (cj r.1.1) ALz,mu gw (cj r.1.2.1) AL1,mu gw (cj r.1.2.2) AL3),(mu gw (cj r.2.1) AL0,mu gw (cj r.2.2.1) AL2,mu gw (cj r.2.2.2) AL4))
end
noncomputable section
def liR (l:R gw) (q:R P2) (x y:Nat):R gx:=((su gw (mu gw l q.1) q.2.1,ng gw (sc l x),Bo),(Bo,((re FP y:R FP),(0:Nat)),Bo))
def AL5:List Ch:=[.n .u64 0,.n .u64 0,.n .u64 0,.n .u64 0,.n .u64 0,.n .u64 0]
def liC (l:R gw) (q:R P2) (x y:Nat):List Ch:=Bs (av (su gw (mu gw l q.1) q.2.1)) (Bs (av (ng gw (sc l x))) (Bs SL (Bs SL (Bs (av (re FP y:R FP)) (Bs AL5 SL)))))
theorem Ali (l:R gw) (q:R P2) (x y:Nat) (i:Bool):AJ dr oDg0 f266 [va gw l,va P2 q,Ax x y i] [] 600=some ([],.val true (liC l q x y)):=dm
theorem Alj (l:R gw) (q:R P2) (x y:Nat) (i:Bool):AJ dr oDg0 f252 [va gw l,va P2 q,Ax x y i] [] 600=some ([],.val true (liC l q x y)):=dm
theorem AL6 (l:R gw) (q:R P2) (x y:Nat):(rd (liC l q x y):Option (R gx))=some (liR l q x y):=dm
end
noncomputable section
def Qp (l:R gw) (q:R P2) (p:R (Pt FP)):R gx:=liR l q p.1 p.2.1
def SDi:dw:=(266,Af (VF gw P2 (Pt FP) fun l q p=>va gx (Qp l q p)))::(252,Af (VF gw P2 (Pt FP) fun l q p=>va gx (Qp l q p)))::SDf
theorem AL7:AX dr SDi:=⟨Ah func266 dm dm (fW fun l q p=>EY (α:=gx) (AN ALy AB func266 (Ali l q p.1 p.2.1 p.2.2) trivial rfl) (AL6 l q p.1 p.2.1)),Ah func252 dm dm (fW fun l q p=>EY (α:=gx) (AN ALy AB func252 (Alj l q p.1 p.2.1 p.2.2) trivial rfl) (AL6 l q p.1 p.2.1)),ABR⟩
abbrev oDi:ia:=AG SDi KV
theorem ABV:g_ dr oDi:=AH AL7 BR
end
noncomputable section
def SDj0:dw:=(220,BF dr oDi f220 300)::(54,BF dr oDi f54 300)::(249,BF dr oDi f249 300)::SDi
theorem AL8:AX dr SDj0:=⟨BJ ABV AB func220 dm dm 300,BJ ABV AB func54 dm dm 300,BJ ABV AB func249 dm dm 300,AL7⟩
abbrev oDj0:ia:=AG SDj0 KV
theorem Iz:g_ dr oDj0:=AH AL8 BR
def Hg:List Ch:=.n .u64 1::List.replicate 71 (.n .u64 0)
theorem ABW:(rd Hg:Option (R gx))=some o12:=dm
noncomputable abbrev Tg:Func:=f222
noncomputable abbrev Th:Func:=f195
def Ze (t q:R P2):AV:=.tup [(true,av (en (Rg.add (mo (re P2 t):P2) (mo (re P2 q))):R P2)),(true,Hg)]
def WR (t q:R P2):AV:=.tup [(true,av (en (Rg.add (mo t:P2) (mo q)):R P2)),(true,Hg)]
section
variable (t q:R P2) (p:R (Pt FP))
theorem Alk:AJ dr oDj0 Tg [va P2 t,va P2 q,va (Pt FP) p] dz 600=some ([(p.2.2,true)],Ze t q):=dm
theorem All:AJ dr oDj0 Tg [va P2 t,va P2 q,va (Pt FP) p] ee 600=some ([(p.2.2,false),((re P2 t).2.2,true)],Ze t q):=dm
theorem Alm:AJ dr oDj0 Tg [va P2 t,va P2 q,va (Pt FP) p] fb 600=some ([(p.2.2,false),((re P2 t).2.2,false),((re P2 q).2.2,true)],Ze t q):=dm
theorem Aln:AJ dr oDj0 Th [va P2 t,va P2 q,va (Pt FP) p] dz 600=some ([(p.2.2,true)],WR t q):=dm
theorem Alo:AJ dr oDj0 Th [va P2 t,va P2 q,va (Pt FP) p] ee 600=some ([(p.2.2,false),(t.2.2,true)],WR t q):=dm
theorem Alp:AJ dr oDj0 Th [va P2 t,va P2 q,va (Pt FP) p] fb 600=some ([(p.2.2,false),(t.2.2,false),(q.2.2,true)],WR t q):=dm
end
end
noncomputable section
def Alq:List Ch:=List.replicate 36 (.n .u64 0)
def WS (x:R gw) (a:R FP):List Ch:=Bs (av x) (Bs (av (ng FP a)) (Bs AL5 (Bs SL Alq)))
def ABX (x:R gw) (a:R FP):R gx:=((x,((ng FP a:R FP),(0:Nat)),Bo),(Bo,Bo,Bo))
theorem ABY (x:R gw) (a:R FP):(rd (WS x a):Option (R gx))=some (ABX x a):=dm
def l9 (x y:R gw):R gw:=mu gw (ad gw (ad gw (mu gw (re gw x) (re gw x)) (mu gw (re gw x) (re gw x))) (mu gw (re gw x) (re gw x))) (iv gw (ad gw (re gw y) (re gw y)))
def stL (l x y x':R gw) (p:R (Pt FP)):AV:=.tup [(true,Bs (av (aX l (re gw x) (re gw x'))) (Bs (av (aY l (re gw x) (re gw y) (aX l (re gw x) (re gw x')))) [.b false])),(true,av (Qp l (re P2 (x,y,false)) p))]
section
variable (x y x' y':R gw) (a b:R FP)
theorem Alr:AJ dr oDj0 Tg [va P2 (x,y,false),va P2 (x',y',false),va (Pt FP) (a,b,false)] eq 600=some ([(false,false),(false,false),(false,false),(!e2 (re gw x) (re gw x'),true)],stL (sC x y x' y') x y x' (a,b,false)):=dm
theorem Als:AJ dr oDj0 Tg [va P2 (x,y,false),va P2 (x',y',false),va (Pt FP) (a,b,false)] fi 600=some ([(false,false),(false,false),(false,false),(!e2 (re gw x) (re gw x'),false),(!e2 (re gw y) (re gw y'),true)],.tup [(true,CS true),(true,WS (re gw x) a)]):=dm
theorem Alt:AJ dr oDj0 Tg [va P2 (x,y,false),va P2 (x',y',false),va (Pt FP) (a,b,false)] [false,false,false,false,false,true] 600=some ([(false,false),(false,false),(false,false),(!e2 (re gw x) (re gw x'),false),(!e2 (re gw y) (re gw y'),false),(e2 (re gw y) Bo,true)],.tup [(true,CS true),(true,WS (re gw x) a)]):=dm
theorem Alu:AJ dr oDj0 Tg [va P2 (x,y,false),va P2 (x',y',false),va (Pt FP) (a,b,false)] [false,false,false,false,false,false] 600=some ([(false,false),(false,false),(false,false),(!e2 (re gw x) (re gw x'),false),(!e2 (re gw y) (re gw y'),false),(e2 (re gw y) Bo,false)],stL (l9 x y) x y x' (a,b,false)):=dm
end
end
noncomputable section
def srS (x y x' y':R gw):List Ch:=av (en (Rg.add (mo ((x,y,false):R P2):P2) (mo ((x',y',false):R P2))):R P2)
def srV (x y x' y':R gw) (l:R gx):AV:=.tup [(true,srS x y x' y'),(true,av l)]
section
variable (x y x' y':R gw) (a b:R FP)
theorem Alv:AJ dr oDj0 Th [va P2 (x,y,false),va P2 (x',y',false),va (Pt FP) (a,b,false)] ep 600=some ([(false,false),(false,false),(false,false),(e2 (re gw x) (re gw x'),false)],srV x y x' y' (Qp (sC x y x' y') (x,y,false) (a,b,false))):=dm
theorem Alw:AJ dr oDj0 Th [va P2 (x,y,false),va P2 (x',y',false),va (Pt FP) (a,b,false)] [false,false,false,true,true] 600=some ([(false,false),(false,false),(false,false),(e2 (re gw x) (re gw x'),true),(!e2 (re gw y) (re gw y'),true)],.tup [(true,srS x y x' y'),(true,WS (re gw x) a)]):=dm
theorem Alx:AJ dr oDj0 Th [va P2 (x,y,false),va P2 (x',y',false),va (Pt FP) (a,b,false)] [false,false,false,true,false,true] 600=some ([(false,false),(false,false),(false,false),(e2 (re gw x) (re gw x'),true),(!e2 (re gw y) (re gw y'),false),(e2 (re gw y) (kk 0),true)],.tup [(true,srS x y x' y'),(true,WS (re gw x) a)]):=dm
theorem Aly:AJ dr oDj0 Th [va P2 (x,y,false),va P2 (x',y',false),va (Pt FP) (a,b,false)] [false,false,false,true,false,false] 600=some ([(false,false),(false,false),(false,false),(e2 (re gw x) (re gw x'),true),(!e2 (re gw y) (re gw y'),false),(e2 (re gw y) (kk 0),false)],srV x y x' y' (Qp (sT x y) (x,y,false) (a,b,false))):=dm
end
end
noncomputable section
theorem AL_ {F:gp} {args:List AV} {α β:Type} [Sh α] [Sh β] {c1 c2:List Ch} {r1:R α} {r2:R β} (h:AT dr F args (.tup [(true,c1),(true,c2)])) (h1:rd c1=some r1) (h2:rd c2=some r2):AT dr F args (.tup [(true,av r1),(true,av r2)]) :=
 CG h fun _ hu=>by
  obtain ⟨us,⟨u1,l1,⟨q1,p1,rfl⟩,⟨u2,l2,⟨q2,p2,rfl⟩,hn,rfl⟩,rfl⟩,rfl⟩:=hu;exact ⟨_,⟨_,_,⟨q1,Sh.rd_ok h1 p1,rfl⟩,⟨_,_,⟨q2,Sh.rd_ok h2 p2,rfl⟩,hn,rfl⟩,rfl⟩,rfl⟩
def NO (l x y:gw) (a b:FP):gx:=⟨⟨l*x-y,-(Qx.sc l a),0⟩,⟨0,⟨b,0⟩,0⟩⟩
def O5 (x:gw) (a:FP):gx:=⟨⟨x,⟨-a,0⟩,0⟩,⟨0,0,0⟩⟩
def Zf (x y x' y':gw):gw:=(y'-y)*FD.inv (x'-x)
def Ti (x y:gw):gw:=(x*x+x*x+x*x)*FD.inv (y+y)
def Qq (x y x' y':gw) (a b:FP):gx:=if x=x' then (if y=y'∧y≠0 then NO (Ti x y) x y a b else O5 x a) else NO (Zf x y x' y') x y a b
def IG (T Q:P2) (p:Pt FP):gx:=match p with
 | .inf=>1
 | .pt a b=>match T with
  | .inf=>1
  | .pt x y=>match Q with
   | .inf=>1
   | .pt x' y'=>Qq x y x' y' a b
theorem Alz (r:R gx):(rd (av r):Option (R gx))=some r:=dm
def Qr (t q:R P2) (p:R (Pt FP)):AV:=.tup [(true,av (en (Rg.add (mo t) (mo q)):R P2)),(true,av (en (IG (mo t) (mo q) (mo p)):R gx))]
theorem ABb (l x y:R gw) (a b:R FP):Qp l (x,y,false) (a,b,false)=en (NO (mo l) (mo x) (mo y) (mo a) (mo b)):=by
 unfold Qp liR NO su mu ng sc re;simp only [mo_en];rfl
theorem ABc (x:R gw) (a:R FP):ABX (re gw x) a=en (O5 (mo x) (mo a)):=by
 unfold ABX O5 ng re;rfl
theorem Tj:o12=en (1:gx):=dm
theorem ABd {F:gp} {args:List AV} {β:Type} [Sh β] {c1 c2:List Ch} {r2:R β} (h:AT dr F args (.tup [(true,c1),(true,c2)])) (h2:rd c2=some r2):AT dr F args (.tup [(true,c1),(true,av r2)]) :=
 CG h fun _ hu=>by
  obtain ⟨us,⟨u1,l1,⟨q1,p1,rfl⟩,⟨u2,l2,⟨q2,p2,rfl⟩,hn,rfl⟩,rfl⟩,rfl⟩:=hu;exact ⟨_,⟨_,_,⟨q1,p1,rfl⟩,⟨_,_,⟨q2,Sh.rd_ok h2 p2,rfl⟩,hn,rfl⟩,rfl⟩,rfl⟩
section
variable {F:gp} {t q:R P2} {p:R (Pt FP)}
theorem WT (h:AT dr F [va P2 t,va P2 q,va (Pt FP) p] (WR t q)) (hv:IG (mo t) (mo q) (mo p)=1):AT dr F [va P2 t,va P2 q,va (Pt FP) p] (Qr t q p):=by
 unfold Qr;rw [hv,← Tj];exact ABd h ABW
end
theorem Al0 (t q:R P2):Ze t q=WR t q:=by unfold Ze WR re;rw [mo_en,mo_en]
theorem AL' (Q:P2) (p:Pt FP):IG .inf Q p=1:=by cases p<;>rfl
theorem AMA (T:P2) (p:Pt FP):IG T .inf p=1:=by cases p<;>cases T<;>rfl
section
variable {F:gp} {x y x' y':R gw} {a b:R FP}
theorem I0 (a b:R gw):e2 (re gw a) (re gw b)=decide ((mo a:gw)=mo b):=iR _ _
theorem mA (a:R gw):e2 (re gw a) (kk 0)=decide ((mo a:gw)=0):=by rw [kk0];exact iR _ _
end
section
variable {F:gp} {args:List AV} {l x y x' y':R gw} {a b:R FP}
theorem AMB (h:AT dr F args (stL l x y x' (a,b,false))) :
  AT dr F args (.tup [(true,av (en (GM (mo x:gw) (mo y) (mo x') (mo l)):R P2)),(true,av (en (NO (mo l) (mo x) (mo y) (mo a) (mo b)):R gx))]):=by
 have h1:=AJH l (re gw x) (re gw y) (re gw x')
 have h2:=ABb l (re gw x) (re gw y) a b
 have e:∀ z:R gw,(mo (re gw z):gw)=mo z:=fun z=>mo_en _
 rw [e,e,e] at h1;rw [e,e] at h2;rw [← h1,← h2];exact AL_ (α:=P2) (β:=gx) (r1:=aP l (re gw x) (re gw y) (re gw x')) (r2:=Qp l (re gw x,re gw y,false) (a,b,false)) h dm (Alz _)
theorem AMC (h:AT dr F args (.tup [(true,CS true),(true,WS (re gw x) a)])):AT dr F args (.tup [(true,av (en (.inf:P2):R P2)),(true,av (en (O5 (mo x) (mo a)):R gx))]):=by
 rw [← ABc];exact AL_ (α:=P2) (β:=gx) (r1:=(en (.inf:P2):R P2)) h dm (ABY _ _)
end
theorem Al1 (x y x' y':R gw) (a b:R FP):Qr (x,y,false) (x',y',false) (a,b,false)=.tup [(true,av (en (Rg.add (.pt (mo x:gw) (mo y)) (.pt (mo x') (mo y'))):R P2)),(true,av (en (Qq (mo x) (mo y) (mo x') (mo y') (mo a) (mo b)):R gx))]:=rfl
theorem AMD {F:gp} {x y x' y':R gw} {a b:R FP}
  (hc:decide ((mo x:gw)=mo x')=false→AT dr F [va P2 (x,y,false),va P2 (x',y',false),va (Pt FP) (a,b,false)] (.tup [(true,av (en (Rg.add (.pt (mo x:gw) (mo y)) (.pt (mo x') (mo y'))):R P2)),(true,av (en (NO (Zf (mo x) (mo y) (mo x') (mo y')) (mo x) (mo y) (mo a) (mo b)):R gx))]))
  (hu:decide ((mo x:gw)=mo x')=true→decide ((mo y:gw)=mo y')=false→AT dr F [va P2 (x,y,false),va P2 (x',y',false),va (Pt FP) (a,b,false)] (.tup [(true,av (en (Rg.add (.pt (mo x:gw) (mo y)) (.pt (mo x') (mo y'))):R P2)),(true,av (en (O5 (mo x) (mo a)):R gx))]))
  (hz:decide ((mo x:gw)=mo x')=true→decide ((mo y:gw)=mo y')=true→decide ((mo y:gw)=0)=true→AT dr F [va P2 (x,y,false),va P2 (x',y',false),va (Pt FP) (a,b,false)] (.tup [(true,av (en (Rg.add (.pt (mo x:gw) (mo y)) (.pt (mo x') (mo y'))):R P2)),(true,av (en (O5 (mo x) (mo a)):R gx))]))
  (ht:decide ((mo x:gw)=mo x')=true→decide ((mo y:gw)=mo y')=true→decide ((mo y:gw)=0)=false→AT dr F [va P2 (x,y,false),va P2 (x',y',false),va (Pt FP) (a,b,false)] (.tup [(true,av (en (Rg.add (.pt (mo x:gw) (mo y)) (.pt (mo x') (mo y'))):R P2)),(true,av (en (NO (Ti (mo x) (mo y)) (mo x) (mo y) (mo a) (mo b)):R gx))])) :
  AT dr F [va P2 (x,y,false),va P2 (x',y',false),va (Pt FP) (a,b,false)] (Qr (x,y,false) (x',y',false) (a,b,false)):=by
 rw [Al1];unfold Qq;by_cases hx:(mo x:gw)=mo x'
 ·rw [jo hx];by_cases hy:(mo y:gw)=mo y'
  ·by_cases h0:(mo y:gw)=0
   ·rw [jn (fun h=>h.2 h0)]
    exact hz (jm hx) (jm hy) (jm h0)
   ·rw [jo ⟨hy,h0⟩];exact ht (jm hx) (jm hy) (jq h0)
  ·rw [jn (fun h=>hy h.1)]
   exact hu (jm hx) (jq hy)
 ·rw [jn hx];exact hc (jq hx)
theorem Al2 {x y x' y':gw} (h:decide (x=x')=false):Rg.add (.pt x y) (.pt x' y')=GM x y x' (Zf x y x' y'):=by rw [JN,jn (qa h)];rfl
theorem Al3 {x y x' y':gw} (h:decide (x=x')=true) (h':decide (y=y')=false):Rg.add (.pt x y) (.pt x' y')=.inf:=by rw [JN,jo (kj h),jn fun q=>qa h' q.1]
theorem Al4 {x y x' y':gw} (h:decide (x=x')=true) (h':decide (y=0)=true):Rg.add (.pt x y) (.pt x' y')=.inf:=by rw [JN,jo (kj h),jn fun q=>q.2 (kj h')]
theorem Al5 {x y x' y':gw} (h:decide (x=x')=true) (h':decide (y=y')=true) (h0:decide (y=0)=false):Rg.add (.pt x y) (.pt x' y')=GM x y x' (Ti x y):=by rw [JN,jo (kj h),jo ⟨kj h',qa h0⟩];rfl
theorem Al6 (x y:R gw):(mo (l9 x y):gw)=Ti (mo x) (mo y):=by
 unfold l9 mu ad iv re Ti;simp only [mo_en]
theorem AME:Bo=kk 0:=dm
theorem Al7 (t q:R P2) (p:R (Pt FP)):AT dr 222 [va P2 t,va P2 q,va (Pt FP) p] (Qr t q p):=by
 have h1:=Alk t q p;have h2:=All t q p;have h3:=Alm t q p;obtain ⟨x,y,i⟩:=t;obtain ⟨x',y',i'⟩:=q;obtain ⟨a,b,i''⟩:=p;rw [Al0] at h1 h2 h3;cases i'' with
 | true=>exact WT (AN Iz AB func222 h1 ⟨rfl,trivial⟩ rfl) rfl
 | false=>cases i with
  | true=>exact WT (AN Iz AB func222 h2 ⟨rfl,rfl,trivial⟩ rfl) (AL' _ _)
  | false=>cases i' with
   | true=>exact WT (AN Iz AB func222 h3 ⟨rfl,rfl,rfl,trivial⟩ rfl) (AMA _ _)
   | false =>
    refine AMD (fun hx=>?_) (fun hx hy=>?_) (fun hx hy h0=>?_) fun hx hy h0=>?_
    ·rw [Al2 hx,show Zf (mo x) (mo y) (mo x') (mo y')=mo (sC x y x' y') from (yN ..).symm]
     exact AMB (AN Iz AB func222 (Alr x y x' y' a b) ⟨rfl,rfl,rfl,by rw [I0,hx];rfl,trivial⟩ rfl)
    ·rw [Al3 hx hy];exact AMC (AN Iz AB func222 (Als x y x' y' a b) ⟨rfl,rfl,rfl,by rw [I0,hx];rfl,by rw [I0,hy];rfl,trivial⟩ rfl)
    ·rw [Al4 hx h0];exact AMC (AN Iz AB func222 (Alt x y x' y' a b) ⟨rfl,rfl,rfl,by rw [I0,hx];rfl,by rw [I0,hy];rfl,by rw [AME,mA,h0],trivial⟩ rfl)
    ·rw [Al5 hx hy h0,show Ti (mo x) (mo y)=mo (l9 x y) from (Al6 ..).symm]
     exact AMB (AN Iz AB func222 (Alu x y x' y' a b) ⟨rfl,rfl,rfl,by rw [I0,hx];rfl,by rw [I0,hy];rfl,by rw [AME,mA,h0],trivial⟩ rfl)
theorem Al8 (t q:R P2) (p:R (Pt FP)):AT dr 195 [va P2 t,va P2 q,va (Pt FP) p] (Qr t q p):=by
 have h1:=Aln t q p;have h2:=Alo t q p;have h3:=Alp t q p;obtain ⟨x,y,i⟩:=t;obtain ⟨x',y',i'⟩:=q;obtain ⟨a,b,i''⟩:=p;cases i'' with
 | true=>exact WT (AN Iz AB func195 h1 ⟨rfl,trivial⟩ rfl) rfl
 | false=>cases i with
  | true=>exact WT (AN Iz AB func195 h2 ⟨rfl,rfl,trivial⟩ rfl) (AL' _ _)
  | false=>cases i' with
   | true=>exact WT (AN Iz AB func195 h3 ⟨rfl,rfl,rfl,trivial⟩ rfl) (AMA _ _)
   | false =>
    refine AMD (fun hx=>?_) (fun hx hy=>?_) (fun hx hy h0=>?_) fun hx hy h0=>?_
    ·rw [show Zf (mo x) (mo y) (mo x') (mo y')=mo (sC x y x' y') from (yN ..).symm,← ABb]
     exact AN Iz AB func195 (Alv x y x' y' a b) ⟨rfl,rfl,rfl,by rw [I0,hx],trivial⟩ rfl
    ·rw [← ABc];exact ABd (AN Iz AB func195 (Alw x y x' y' a b) ⟨rfl,rfl,rfl,by rw [I0,hx],by rw [I0,hy];rfl,trivial⟩ rfl) (ABY _ _)
    ·rw [← ABc];exact ABd (AN Iz AB func195 (Alx x y x' y' a b) ⟨rfl,rfl,rfl,by rw [I0,hx],by rw [I0,hy];rfl,by rw [mA,h0],trivial⟩ rfl) (ABY _ _)
    ·rw [show Ti (mo x) (mo y)=mo (sT x y) from (AJI ..).symm,← ABb]
     exact AN Iz AB func195 (Aly x y x' y' a b) ⟨rfl,rfl,rfl,by rw [I0,hx],by rw [I0,hy];rfl,by rw [mA,h0],trivial⟩ rfl
def SDm:dw:=(222,Af (VF P2 P2 (Pt FP) Qr))::(195,Af (VF P2 P2 (Pt FP) Qr))::SDj0
theorem mB:AX dr SDm:=⟨Ah func222 dm dm (fW Al7),Ah func195 dm dm (fW Al8),AL8⟩
abbrev oDm:ia:=AG SDm KV
theorem Zg:g_ dr oDm:=AH mB BR
end
noncomputable def SDn0:dw:=(221,BF dr oDm f221 300)::SDm
theorem AMF:AX dr SDn0:=⟨BJ Zg AB func221 dm dm 300,mB⟩
noncomputable abbrev oDn0:ia:=AG SDn0 KV
theorem mC:g_ dr oDn0:=AH AMF BR
noncomputable abbrev mlF:Func:=f157
noncomputable def Tk (p:R (Pt FP)) (q:R P2) (b:List Bool):h_:=Ak mlF [va (Pt FP) p,va P2 q] [] 0 b
noncomputable def mlX (p:R (Pt FP)) (q:R P2):=AZ dr oDn0 (some 0) 100 0 none (Tk p q ep)
noncomputable def Al_:List Item:=B6 (mlX ((0:Nat),(0:Nat),false) (en (.pt 0 0:P2)))
noncomputable def Tl (p:R (Pt FP)) (q:R P2) (f:List Ch) (t:R P2) (i:AV) (b:List Bool):h_:=⟨Al_,⟨Dx mlF.ntmps [(2,.val false [.p 0 0]),(3,.val false [.p 1 0]),(4,.val false [.p 2 0]),(6,.val false [.p 4 0]),(7,.val false [.p 5 0]),(8,.val false [.clo 221 [(5,0),(0,0),(4,0)]]),(9,i)],
 [(0,some ⟨42,av p,false⟩),(1,some ⟨70,av q,false⟩),(2,some ⟨83,List.replicate 72 (.n .u64 0),false⟩),(4,some ⟨83,f,false⟩),(5,some ⟨70,av t,false⟩)],6,b⟩⟩
abbrev mlK:Option (List Nat×List Nat×Nat):=some ([2,3,4,6,7,8,9],[0,1,2,4,5],6)
noncomputable def mlC (p:R (Pt FP)) (q:R P2):du:=[(!BH (mo p:Pt FP),false),(!BK (mo q),false),(p.2.2,false),(q.2.2,false)]
theorem Al' (p:R (Pt FP)) (q:R P2):AZ dr oDn0 (some 0) 100 0 mlK (Tk p q ep)=some (mlC p q,[],Tl p q Hg (re P2 q) (.val false [.n .i64 62]) []):=dm
noncomputable def Zh (p:R (Pt FP)) (f:R gx) (t:R P2):R gx:=mu gx (mu gx f f) (en (IG (mo t) (mo t) (mo p)))
noncomputable def WU (t:R P2):R P2:=en (Rg.add (mo t) (mo t))
noncomputable def mD (p:R (Pt FP)) (q:R P2) (f:R gx) (t:R P2):R gx:=mu gx (Zh p f t) (en (IG (mo (WU t)) (mo q) (mo p)))
noncomputable def mF (q t:R P2):R P2:=en (Rg.add (mo (WU t)) (mo q))
noncomputable def mG (i:Int):Bool:=decide (bits .and .u64 (Int.fdiv 15132376222941642752 (2^min (Int.toNat i) (IntKind.bits .u64))) 1=0)
noncomputable def mlQ (i:Int) (b:Bool):du:=[(decide (0≤i),true),(decide (0≤i∧(0:Int)≤15132376222941642752),true),(mG i,b)]
section
variable (p:R (Pt FP)) (q:R P2) (f:R gx) (t:R P2) (i:Int)
theorem AmA:AZ dr oDn0 (some 0) 100 0 mlK (Tl p q (av f) t (iA i) d_)=some (mlQ i true,[],Tl p q (av (Zh p f t)) (WU t) (iA (wI (i-1))) []):=dm
theorem AmB:AZ dr oDn0 (some 0) 100 0 mlK (Tl p q (av f) t (iA i) eg)=some (mlQ i false,[],Tl p q (av (mD p q f t)) (mF q t) (iA (wI (i-1))) []):=dm
noncomputable def Zi (x:R gx) (e:Int):AV:=.tup [(true,av x),(false,[.n .i64 e])]
noncomputable def II (f:R gx):R gx:=en (Qx.conj (mo f))
theorem AmC:AU dr oDn0 mlF 100 0 [] (Tl p q (av f) t (iA i) dx)=some ([(decide (0≤i),false)],[],Zi (II f) 0,[]):=dm
end
def AmD:Nat:=15132376222941642752
def O6 (c:Nat):Bool:=decide (AmD / 2^c % 2=0)
theorem AmE:(List.range 63).all (fun c=>mG (c:Int)==O6 c)=true:=dm
theorem AmF {c:Nat} (h:c<63):mG (c:Int)=O6 c:=beq_iff_eq.1 (nj.1 AmE c (mj.2 h))
noncomputable section
def HD (p:Pt FP) (q:P2):Nat→gx→P2→gx
 | 0,f,_=>f
 | c+1,f,t=>match O6 c with
  | true=>HD p q c (f*f*IG t t p) (Rg.add t t)
  | false=>HD p q c (f*f*IG t t p*IG (Rg.add t t) q p) (Rg.add (Rg.add t t) q)
theorem ABg (p:R (Pt FP)) (f:gx) (t:P2):Zh p (en f) (en t)=en (f*f*IG t t (mo p)):=by unfold Zh mu;simp only [mo_en]
theorem mH (t:P2):WU (en t)=en (Rg.add t t):=by unfold WU;rw [mo_en]
theorem AMH (p:R (Pt FP)) (q:R P2) (f:gx) (t:P2):mD p q (en f) (en t)=en (f*f*IG t t (mo p)*IG (Rg.add t t) (mo q) (mo p)):=by
 unfold mD;rw [ABg,mH];unfold mu;simp only [mo_en]
theorem AMI (q:R P2) (t:P2):mF q (en t)=en (Rg.add (Rg.add t t) (mo q)):=by
 unfold mF;rw [mH,mo_en]
section
variable {β0:Env} {w0:gn} (hb:∀ b,0≤b→β0 b=none) (p:R (Pt FP)) (q:R P2)
include hb in
theorem AMJ:∀ (c:Nat) (f:gx) (t:P2),c≤63→gz dr 157 β0 w0 (BA β0 w0 [] (Zi (en (Qx.conj (HD (mo p) (mo q) c f t))) 0) []) mlF.ntmps [] (Tl p q (av (en f:R gx)) (en t) (iA ((c:Int)-1)) [])
 | 0,f,t,_=>by
  have h:=A6 (w0:=w0) (W:=[]) (n:=mlF.ntmps) mC AB func157 (AmC p q (en f) (en t) (((0:Nat):Int)-1)) ⟨rfl,trivial⟩ (AR dm) hb jl
  have e:II (en f)=en (Qx.conj f):=by unfold II;rw [mo_en]
  rw [e] at h;exact Ai dx h
 | c+1,f,t,hc=>by
  have hi:((c+1:Nat):Int)-1=(c:Int):=dn
  have hn:wI ((c:Int)-1)=(c:Int)-1:=Au dn
  have hB:=AmF (c:=c) dn
  have hq:∀ b,mG (c:Int)=b→AM (mlQ c b):=fun b h=>⟨jm dn,jm dn,h,trivial⟩
  rw [hi];have ih:=fun f t=>AMJ c f t dn
  unfold HD;cases hm:O6 c with
  | true =>
   refine Ai d_ (Aj mC AB (AmA p q (en f) (en t) c) (hq _ (hB.trans hm)) (AR dm) hb jl fun _=>?_)
   rw [hn,ABg,mH];exact ih _ _
  | false =>
   refine Ai eg (Aj mC AB (AmB p q (en f) (en t) c) (hq _ (hB.trans hm)) (AR dm) hb jl fun _=>?_)
   rw [hn,AMH,AMI];exact ih _ _
end
end
noncomputable section
def Hh (P:Pt FP) (Q:P2):Bool:=BH P&&BK Q
def MC (P:Pt FP) (Q:P2):Bool:=EX P||EX Q
def DA (P:Pt FP) (Q:P2):gx:=match Hh P Q with
 | false=>0
 | true=>match MC P Q with
  | true=>1
  | false=>Qx.conj (HD P Q 63 1 Q)
def mI (P:Pt FP) (Q:P2):Int:=match Hh P Q with
 | false=>120
 | true=>0
def O7:List Ch:=List.replicate 72 (.n .u64 0)
theorem AMK:(rd O7:Option (R gx))=some (en (0:gx)):=dm
def WV (P:Pt FP) (Q:P2):AV:=.tup [(true,av (en (DA P Q):R gx)),(false,[.n .i64 (mI P Q)])]
section
variable (p:R (Pt FP)) (q:R P2)
theorem AmG:AU dr oDn0 mlF 300 0 [] (Tk p q d_)=some ([(!BH (mo p:Pt FP),true)],[],.tup [(true,O7),(false,[.n .i64 120])],[]):=dm
theorem AmH:AU dr oDn0 mlF 300 0 [] (Tk p q ee)=some ([(!BH (mo p:Pt FP),false),(!BK (mo q),true)],[],.tup [(true,O7),(false,[.n .i64 120])],[]):=dm
theorem AmI:AU dr oDn0 mlF 300 0 [] (Tk p q fb)=some ([(!BH (mo p:Pt FP),false),(!BK (mo q),false),(p.2.2,true)],[],.tup [(true,Hg),(false,[.n .i64 0])],[]):=dm
theorem AmJ:AU dr oDn0 mlF 300 0 [] (Tk p q eq)=some ([(!BH (mo p:Pt FP),false),(!BK (mo q),false),(p.2.2,false),(q.2.2,true)],[],.tup [(true,Hg),(false,[.n .i64 0])],[]):=dm
end
theorem ABh {F:gp} {args:List AV} {e:Int} {c:List Ch} {r:R gx} (h:Ab dr F args [] 0 [] (.tup [(true,c),(false,[.n .i64 e])]) []) (hr:rd c=some r):Ab dr F args [] 0 [] (.tup [(true,av r),(false,[.n .i64 e])]) [] :=
 BN h fun _ _ hu=>by
  obtain ⟨us,⟨u1,l1,⟨q1,p1,rfl⟩,q2,rfl⟩,rfl⟩:=hu;exact ⟨_,⟨_,_,⟨q1,Sh.rd_ok hr p1,rfl⟩,q2,rfl⟩,rfl⟩
theorem mJ {p:R (Pt FP)} {q:R P2} {v:AV} {c:du} {b:List Bool} (h:AU dr oDn0 mlF 300 0 [] (Tk p q b)=some (c,[],v,[])) (hc:AM c):Ab dr 157 [va (Pt FP) p,va P2 q] [] 0 [] v [] :=
 Bf AMF BR func157 dm dm h dm hc
theorem AmK (p:R (Pt FP)):EX (mo p:Pt FP)=p.2.2:=by obtain ⟨a,b,i⟩:=p;cases i<;>rfl
theorem AmL (q:R P2):EX (mo q)=q.2.2:=by obtain ⟨a,b,i⟩:=q;cases i<;>rfl
theorem AML {F:gp} {p:R (Pt FP)} {q:R P2} (k1:BH (mo p:Pt FP)=false→Ab dr F [va (Pt FP) p,va P2 q] [] 0 [] (.tup [(true,O7),(false,[.n .i64 120])]) [])
  (k2:BH (mo p:Pt FP)=true→BK (mo q)=false→Ab dr F [va (Pt FP) p,va P2 q] [] 0 [] (.tup [(true,O7),(false,[.n .i64 120])]) [])
  (k3:BH (mo p:Pt FP)=true→BK (mo q)=true→p.2.2=true→Ab dr F [va (Pt FP) p,va P2 q] [] 0 [] (.tup [(true,Hg),(false,[.n .i64 0])]) [])
  (k4:BH (mo p:Pt FP)=true→BK (mo q)=true→p.2.2=false→q.2.2=true→Ab dr F [va (Pt FP) p,va P2 q] [] 0 [] (.tup [(true,Hg),(false,[.n .i64 0])]) [])
  (k5:BH (mo p:Pt FP)=true→BK (mo q)=true→p.2.2=false→q.2.2=false→Ab dr F [va (Pt FP) p,va P2 q] [] 0 [] (Zi (en (Qx.conj (HD (mo p) (mo q) 63 1 (mo q)))) 0) []) :
  Ab dr F [va (Pt FP) p,va P2 q] [] 0 [] (WV (mo p) (mo q)) []:=by
 have e1:=AmK p;have e2:=AmL q;unfold WV DA mI;cases h1:BH (mo p:Pt FP) with
 | false =>
  have hB:Hh (mo p) (mo q)=false:=by unfold Hh;rw [h1];rfl
  rw [hB];exact ABh (k1 h1) AMK
 | true=>cases h2:BK (mo q) with
  | false =>
   have hB:Hh (mo p) (mo q)=false:=by unfold Hh;rw [h1,h2];rfl
   rw [hB];exact ABh (k2 h1 h2) AMK
  | true =>
   have hB:Hh (mo p) (mo q)=true:=by unfold Hh;rw [h1,h2];rfl
   have fin:MC (mo p) (mo q)=true→Ab dr F [va (Pt FP) p,va P2 q] [] 0 [] (.tup [(true,Hg),(false,[.n .i64 0])]) []→Ab dr F [va (Pt FP) p,va P2 q] [] 0 [] (.tup [(true,av (en (match MC (mo p) (mo q) with | true=>1 | false=>Qx.conj (HD (mo p) (mo q) 63 1 (mo q)):gx):R gx)),(false,[.n .i64 0])]) []:=fun hI h=>by
    rw [hI];show Ab _ _ _ _ _ _ (.tup [(true,av (en (1:gx):R gx)),(false,[.n .i64 0])]) _;rw [← Tj];exact ABh h ABW
   rw [hB];cases i1:p.2.2 with
   | true=>exact fin (by unfold MC;rw [e1,i1];rfl) (k3 h1 h2 i1)
   | false=>cases i2:q.2.2 with
    | true=>exact fin (by unfold MC;rw [e1,e2,i1,i2];rfl) (k4 h1 h2 i1 i2)
    | false =>
     have hI:MC (mo p) (mo q)=false:=by unfold MC;rw [e1,e2,i1,i2];rfl
     rw [hI];exact k5 h1 h2 i1 i2
theorem ABi (β:Env) (l:List gq) (h:AP β Hg l):AP β (av (en (1:gx):R gx)) l:=by rw [← Tj];exact Sh.rd_ok ABW h
theorem AmM (p:R (Pt FP)) (q:R P2):Ab dr 157 [va (Pt FP) p,va P2 q] [] 0 [] (WV (mo p) (mo q)) []:=by
 refine AML (fun h1=>mJ (AmG p q) ⟨by rw [h1];rfl,trivial⟩) (fun h1 h2=>mJ (AmH p q) ⟨by rw [h1];rfl,by rw [h2];rfl,trivial⟩) (fun h1 h2 i1=>mJ (AmI p q) ⟨by rw [h1];rfl,by rw [h2];rfl,i1,trivial⟩)
  (fun h1 h2 i1 i2=>mJ (AmJ p q) ⟨by rw [h1];rfl,by rw [h2];rfl,i1,i2,trivial⟩) fun h1 h2 i1 i2=>?_
 refine A_ (ie:=[]) func157 dm dm fun β0 w0 hb=>?_
 refine Ai ep (Aj mC AB (Al' p q) ⟨by rw [h1];rfl,by rw [h2];rfl,i1,i2,trivial⟩ (AR dm) hb jl fun _=>?_)
 refine Hv (N6 ?_ (AMJ hb p q 63 1 (mo q) (ju _)))
 exact ⟨rfl,rfl,rfl,fun β l h=>h,rfl,rfl,rfl,fun β l h=>h,rfl,rfl,rfl,fun β l h=>h,rfl,rfl,rfl,ABi,rfl,rfl,rfl,fun β l h=>h,trivial⟩
def mK (α β:Type) [Sh α] [Sh β] (g:R α→R β→AV):ASpec:=fun args _ fr ie=>match args with
 | [.val true a,.val true b]=>match (rd a:Option (R α)),(rd b:Option (R β)) with
  | some r,some s=>some (BP [] 0 fr 0 [] (g r s) [] [] ie)
  | _,_=>none
 | _=>none
theorem AMM {α β:Type} [Sh α] [Sh β] {f:gp} {fn:Func} {g:R α→R β→AV} (jc:dr.funcs[f]? = some fn) (hb:fn.body.isSome=true) (iq:fw fn) (hk:∀ r s,EJ 0 0 [] (g r s) []=true)
  (h:∀ r s,Ab dr f [va α r,va β s] [] 0 [] (g r s) []):BI dr f (mK α β g):=by
 refine DN jc hb iq fun args H0 fr ie r hs=>?_
 unfold mK at hs;split at hs;case h_2=>cases hs
 split at hs;case h_2=>cases hs
 rename_i x y hx hy;injection hs with hs;refine ⟨[],0,0,[],_,_,_,_,hs.symm,fun β us w ha hgd hc=>?_⟩
 obtain ⟨u1,jf,r1,⟨u2,jg,r2,ha,rfl⟩,rfl⟩:=ha;exact ⟨_,[],h x y,hk _ _,⟨u1,_,F1 hx r1,⟨u2,jg,F1 hy r2,ha,rfl⟩,rfl⟩,AKr,fun k hk=>by omega⟩
end
noncomputable abbrev rlF:Func:=f123
noncomputable def Tm (p:R (Pt FP)) (q:R P2) (b:List Bool):h_:=Ak rlF [va (Pt FP) p,va P2 q] [] 0 b
noncomputable def AmN:List Item:=B6 (AZ dr oDm (some 0) 100 0 none (Tm ((0:Nat),(0:Nat),false) (en (.pt 0 0:P2)) ep))
noncomputable def Tn (p:R (Pt FP)) (q:R P2) (f:List Ch) (t:R P2) (i:AV) (b:List Bool):h_:=⟨AmN,⟨Dx rlF.ntmps [(2,.val false [.p 0 0]),(3,.val false [.p 1 0]),(4,.val false [.p 2 0]),(8,.val false [.p 4 0]),(9,.val false [.p 5 0]),(10,i)],
 [(0,some ⟨42,av p,false⟩),(1,some ⟨70,av q,false⟩),(2,some ⟨83,List.replicate 72 (.n .u64 0),false⟩),(4,some ⟨83,f,false⟩),(5,some ⟨70,av t,false⟩)],6,b⟩⟩
abbrev ABj:Option (List Nat×List Nat×Nat):=some ([2,3,4,8,9,10],[0,1,2,4,5],6)
theorem AmO (p:R (Pt FP)) (q:R P2):AZ dr oDm (some 0) 100 0 ABj (Tm p q ep)=some (mlC p q,[],Tn p q Hg (re P2 q) (.val false [.n .i64 62]) []):=dm
noncomputable def mL (i:Int):Bool:=decide (bits .and .u64 (Int.fdiv 15132376222941642752 (2^min (Int.toNat (AW false .u64 i)) (IntKind.bits .u64))) 1=1)
noncomputable def rlQ (i:Int) (b:Bool):du:=[(decide (0≤i),true),(decide (0≤AW false .u64 i∧(0:Int)≤15132376222941642752),true),(mL i,b)]
section
variable (p:R (Pt FP)) (q:R P2) (f:R gx) (t:R P2) (i:Int)
theorem AmP:AZ dr oDm (some 0) 100 0 ABj (Tn p q (av f) t (iA i) eg)=some (rlQ i false,[],Tn p q (av (Zh p f t)) (WU t) (iA (wI (i-1))) []):=dm
theorem AmQ:AZ dr oDm (some 0) 100 0 ABj (Tn p q (av f) t (iA i) d_)=some (rlQ i true,[],Tn p q (av (mD p q f t)) (mF q t) (iA (wI (i-1))) []):=dm
theorem AmR:AU dr oDm rlF 100 0 [] (Tn p q (av f) t (iA i) dx)=some ([(decide (0≤i),false)],[],Zi (II f) 0,[]):=dm
theorem AmS:AU dr oDm rlF 300 0 [] (Tm p q d_)=some ([(!BH (mo p:Pt FP),true)],[],.tup [(true,O7),(false,[.n .i64 120])],[]):=dm
theorem AmT:AU dr oDm rlF 300 0 [] (Tm p q ee)=some ([(!BH (mo p:Pt FP),false),(!BK (mo q),true)],[],.tup [(true,O7),(false,[.n .i64 120])],[]):=dm
theorem AmU:AU dr oDm rlF 300 0 [] (Tm p q fb)=some ([(!BH (mo p:Pt FP),false),(!BK (mo q),false),(p.2.2,true)],[],.tup [(true,Hg),(false,[.n .i64 0])],[]):=dm
theorem AmV:AU dr oDm rlF 300 0 [] (Tm p q eq)=some ([(!BH (mo p:Pt FP),false),(!BK (mo q),false),(p.2.2,false),(q.2.2,true)],[],.tup [(true,Hg),(false,[.n .i64 0])],[]):=dm
end
theorem AmW:(List.range 63).all (fun c=>mL (c:Int)==!O6 c)=true:=dm
theorem AmX:(List.range 63).all (fun c=>decide (0≤AW false .u64 (c:Int)∧(0:Int)≤15132376222941642752))=true:=dm
section
variable {β0:Env} {w0:gn} (hb:∀ b,0≤b→β0 b=none) (p:R (Pt FP)) (q:R P2)
include hb in
theorem AMN:∀ (c:Nat) (f:gx) (t:P2),c≤63→gz dr 123 β0 w0 (BA β0 w0 [] (Zi (en (Qx.conj (HD (mo p) (mo q) c f t))) 0) []) rlF.ntmps [] (Tn p q (av (en f:R gx)) (en t) (iA ((c:Int)-1)) [])
 | 0,f,t,_=>by
  have h:=A6 (w0:=w0) (W:=[]) (n:=rlF.ntmps) Zg AB func123 (AmR p q (en f) (en t) (((0:Nat):Int)-1)) ⟨rfl,trivial⟩ (AR dm) hb jl
  have e:II (en f)=en (Qx.conj f):=by unfold II;rw [mo_en]
  rw [e] at h;exact Ai dx h
 | c+1,f,t,hc=>by
  have hi:((c+1:Nat):Int)-1=(c:Int):=dn
  have hn:wI ((c:Int)-1)=(c:Int)-1:=Au dn
  have hB:mL (c:Int)=!O6 c:=beq_iff_eq.1 (nj.1 AmW c (mj.2 dn))
  have hw:=nj.1 AmX c (mj.2 dn)
  have hq:∀ b,mL (c:Int)=b→AM (rlQ c b):=fun b h=>⟨jm dn,hw,h,trivial⟩
  rw [hi];have ih:=fun f t=>AMN c f t dn
  unfold HD;cases hm:O6 c with
  | true =>
   refine Ai eg (Aj Zg AB (AmP p q (en f) (en t) c) (hq _ (by rw [hB,hm];rfl)) (AR dm) hb jl fun _=>?_)
   rw [hn,ABg,mH];exact ih _ _
  | false =>
   refine Ai d_ (Aj Zg AB (AmQ p q (en f) (en t) c) (hq _ (by rw [hB,hm];rfl)) (AR dm) hb jl fun _=>?_)
   rw [hn,AMH,AMI];exact ih _ _
end
theorem mM {p:R (Pt FP)} {q:R P2} {v:AV} {c:du} {b:List Bool} (h:AU dr oDm rlF 300 0 [] (Tm p q b)=some (c,[],v,[])) (hc:AM c):Ab dr 123 [va (Pt FP) p,va P2 q] [] 0 [] v [] :=
 Bf mB BR func123 dm dm h dm hc
theorem AmY (p:R (Pt FP)) (q:R P2):Ab dr 123 [va (Pt FP) p,va P2 q] [] 0 [] (WV (mo p) (mo q)) []:=by
 refine AML (fun h1=>mM (AmS p q) ⟨by rw [h1];rfl,trivial⟩) (fun h1 h2=>mM (AmT p q) ⟨by rw [h1];rfl,by rw [h2];rfl,trivial⟩) (fun h1 h2 i1=>mM (AmU p q) ⟨by rw [h1];rfl,by rw [h2];rfl,i1,trivial⟩)
  (fun h1 h2 i1 i2=>mM (AmV p q) ⟨by rw [h1];rfl,by rw [h2];rfl,i1,i2,trivial⟩) fun h1 h2 i1 i2=>?_
 refine A_ (ie:=[]) func123 dm dm fun β0 w0 hb=>?_
 refine Ai ep (Aj Zg AB (AmO p q) ⟨by rw [h1];rfl,by rw [h2];rfl,i1,i2,trivial⟩ (AR dm) hb jl fun _=>?_)
 refine Hv (N6 ?_ (AMN hb p q 63 1 (mo q) (ju _)))
 exact ⟨rfl,rfl,rfl,fun β l h=>h,rfl,rfl,rfl,fun β l h=>h,rfl,rfl,rfl,fun β l h=>h,rfl,rfl,rfl,ABi,rfl,rfl,rfl,fun β l h=>h,trivial⟩
theorem AMO:∃ f:Pt FP→P2→gx,∀ P Q,f P Q=DA P Q:=⟨_,fun _ _=>rfl⟩
noncomputable def lpO:Pt FP→P2→gx:=Classical.choose AMO
theorem AMP (P:Pt FP) (Q:P2):lpO P Q=DA P Q:=lf AMO P Q
theorem AMQ:∃ f:Pt FP→P2→Int,∀ P Q,f P Q=mI P Q:=⟨_,fun _ _=>rfl⟩
noncomputable def lpN:Pt FP→P2→Int:=Classical.choose AMQ
theorem AmZ (P:Pt FP) (Q:P2):lpN P Q=mI P Q:=lf AMQ P Q
noncomputable def mN (p:R (Pt FP)) (q:R P2):AV:=.tup [(true,av (en (lpO (mo p) (mo q)):R gx)),(false,[.v (.int .i64 (lpN (mo p) (mo q)))])]
theorem AMS {F:gp} {p:R (Pt FP)} {q:R P2} (h:Ab dr F [va (Pt FP) p,va P2 q] [] 0 [] (WV (mo p) (mo q)) []):Ab dr F [va (Pt FP) p,va P2 q] [] 0 [] (mN p q) []:=by
 unfold WV at h;unfold mN;rw [AMP,AmZ];refine BN h fun _ _ hu=>?_
 obtain ⟨us,⟨u1,l1,q1,⟨u2,l2,q2,hn,rfl⟩,rfl⟩,rfl⟩:=hu;obtain ⟨he,hb⟩:=A5 q2;exact ⟨_,⟨_,_,q1,⟨_,_,Az ⟨he,rfl,hb⟩,hn,rfl⟩,rfl⟩,rfl⟩
noncomputable def SDq:dw:=(157,mK (Pt FP) P2 mN)::(123,mK (Pt FP) P2 mN)::SDm
theorem ABm:AX dr SDq:=⟨AMM func157 dm dm (fun _ _=>by kernel_rfl) fun p q=>AMS (AmM p q),AMM func123 dm dm (fun _ _=>by kernel_rfl) fun p q=>AMS (AmY p q),mB⟩
noncomputable abbrev oDq:ia:=AG SDq KV
theorem ABn:g_ dr oDq:=AH ABm BR
noncomputable section
def SDr0:dw:=(288,BF dr oDq f288 300)::(289,BF dr oDq f289 300)::(256,BF dr oDq f256 300)::SDq
theorem Ama:AX dr SDr0:=⟨BJ ABn AB func288 dm dm 300,BJ ABn AB func289 dm dm 300,BJ ABn AB func256 dm dm 300,ABm⟩
noncomputable abbrev oDr0:ia:=AG SDr0 KV
theorem AMT:g_ dr oDr0:=AH Ama BR
theorem Amb (r:R gx):AJ dr oDr0 f272 [va gx r] [] 600=some ([],va gx (fbR r)):=dm
def sxL:dt:=[0x49aa7ffffffff1c7,0x51caaaa72e35555,0xe688231ad3c82906,0xe613e1eb7deb831f,0xc849bf3b5e1f223,0x45582fc5eeaa66f]
def xiR:R gw:=((1:Nat),(1:Nat))
def mO:R gw:=en (VV (mo xiR:gw) (AI (AA sxL 0 6)))
def JZ (k:Nat):R gw:=match k with
 | 0=>oR
 | k+1=>mu gw (JZ k) mO
def frR (r:R gx):R gx:=((mu gw (cj r.1.1) (JZ 0),mu gw (cj r.1.2.1) (JZ 2),mu gw (cj r.1.2.2) (JZ 4)),(mu gw (cj r.2.1) (JZ 1),mu gw (cj r.2.2.1) (JZ 3),mu gw (cj r.2.2.2) (JZ 5)))
theorem Amc (r:R gx):AJ dr oDr0 f198 [va gx r] [] 2000=some (tt 2 [],va gx (frR r)):=dm
theorem Amd (g:gw) (x:gx):(Rg.qM (Rg.kM Qx.conj (g*g)) ⟨g,0,0⟩ x:gx)=⟨⟨Qx.conj x.a.a,Qx.conj x.a.b*(g*g),Qx.conj x.a.c*(g*g*g*g)⟩,⟨Qx.conj x.b.a*g,Qx.conj x.b.b*(g*g*g),Qx.conj x.b.c*(g*g*g*g*g)⟩⟩:=by
 refine Qx.ext (Kx.ext rfl rfl ?_) (Kx.ext ?_ ?_ ?_)
 ·exact ring [Qx.conj x.a.c,g] (a:=Qx.conj x.a.c*(g*g*(g*g))) (b:=Qx.conj x.a.c*(g*g*g*g)) dm
 ·exact ring [Qx.conj x.b.a,Qx.conj x.b.b,Qx.conj x.b.c,g,xi] (a:=Qx.conj x.b.a*g+xi*(Qx.conj x.b.b*(g*g)*0+Qx.conj x.b.c*(g*g*(g*g))*0)) (b:=Qx.conj x.b.a*g) dm
 ·exact ring [Qx.conj x.b.a,Qx.conj x.b.b,Qx.conj x.b.c,g,xi] (a:=Qx.conj x.b.a*0+Qx.conj x.b.b*(g*g)*g+xi*(Qx.conj x.b.c*(g*g*(g*g))*0)) (b:=Qx.conj x.b.b*(g*g*g)) dm
 ·exact ring [Qx.conj x.b.a,Qx.conj x.b.b,Qx.conj x.b.c,g,xi] (a:=Qx.conj x.b.a*0+Qx.conj x.b.b*(g*g)*0+Qx.conj x.b.c*(g*g*(g*g))*g) (b:=Qx.conj x.b.c*(g*g*g*g*g)) dm
theorem AMW:∃ g:gw,g=B9:=⟨_,rfl⟩
def mQ:gw:=Classical.choose AMW
theorem ABp:mQ=B9:=lf AMW
def Zj (g:gw) (x:gx):gx:=⟨⟨Qx.conj x.a.a*1,Qx.conj x.a.b*(1*g*g),Qx.conj x.a.c*(1*g*g*g*g)⟩,⟨Qx.conj x.b.a*(1*g),Qx.conj x.b.b*(1*g*g*g),Qx.conj x.b.c*(1*g*g*g*g*g)⟩⟩
theorem Ame (g:gw) (x:gx):Zj g x=Rg.qM (Rg.kM Qx.conj (g*g)) ⟨g,0,0⟩ x:=by
 rw [Amd];unfold Zj;simp only [Rg.one_mul,Rg.mul_one]
theorem AMX (x:gx):Zj mQ x=gu x:=by rw [Ame,ABp];rfl
theorem Amf (r:R gx) (h:(mo mO:gw)=mQ):frR r=en (gu (mo r)):=by
 rw [← AMX,← h];unfold frR Zj JZ JZ JZ JZ JZ JZ mu cj;simp only [mo_en,ZY];rfl
theorem Amg:(mo xiR:gw)=xi:=Qx.ext D6 D6
theorem Amh:(mo mO:gw)=mQ:=by
 unfold mO;rw [mo_en,iL,Amg,show AI (AA sxL 0 6)=(pN-1) / 6 from by kernel_rfl,Ai7,ABp]
theorem Ami:(mo AL0:gw)=B9:=V5 dm
theorem Amj:(mo AL1:gw)=B9*B9:=V5 dm
theorem Amk:(mo AL2:gw)=B9*B9*B9:=V5 dm
theorem Aml:(mo AL3:gw)=B9*B9*B9*B9:=V5 dm
theorem Amm:(mo AL4:gw)=B9*B9*B9*B9*B9:=V5 dm
theorem Amn:(mo ALz:gw)=1:=ZY
theorem Amo (r:R gx):fbR r=en (gu (mo r)):=by
 rw [← AMX];unfold fbR Zj mu cj;rw [Amn,Ami,Amj,Amk,Aml,Amm,← ABp];simp only [mo_en,Rg.one_mul];rfl
theorem AMY:∃ f:gx→gx,∀ x,f x=gu x:=⟨_,fun _=>rfl⟩
def fbO:gx→gx:=Classical.choose AMY
theorem ABr (x:gx):fbO x=gu x:=lf AMY x
def WW (r:R gx):AV:=va gx (en (fbO (mo r)))
theorem Amp (r:R gx):AT dr 272 [va gx r] (WW r):=by
 unfold WW;rw [ABr,← Amo];exact AN AMT AB func272 (Amb r) trivial rfl
theorem Amq (r:R gx):AT dr 198 [va gx r] (WW r):=by
 unfold WW;rw [ABr,← Amf r Amh];exact AN AMT AB func198 (Amc r) (AY 2 trivial) rfl
def SDr:dw:=(272,Af (BZ gx WW))::(198,Af (BZ gx WW))::SDq
theorem AMZ:AX dr SDr:=⟨Ah func272 dm dm (Bi Amp),Ah func198 dm dm (Bi Amq),ABm⟩
noncomputable abbrev oDr:ia:=AG SDr KV
theorem Ko:g_ dr oDr:=AH AMZ BR
end
noncomputable section
def ppE (r:R gx) (ic n m:Nat) (xs:dt):h_:=Ak f80 [va gx r,AQ 0 ic n m] (BE xs) 1 []
def prE (r:R gx) (ic n m:Nat) (xs:dt):h_:=Ak f199 [va gx r,AQ 0 ic n m] (BE xs) 1 []
def Amr:List Item:=B6 (AZ dr oDr (some 0) 100 1 none (ppE (en (0:gx)) 0 0 0 []))
def Ams:List Item:=B6 (AZ dr oDr (some 0) 100 1 none (prE (en (0:gx)) 0 0 0 []))
def Kp (r:R gx) (ic n m:Nat) (xs:dt) (bg:Bool) (v:List Ch) (L i:AV) (p:List Bool):h_:=⟨Amr,⟨Dx f80.ntmps [(1,AQ 0 ic n m),(2,.val false [.p 1 0]),(4,.val false [.p 2 0]),(5,.val false [.p 3 0]),(6,.val false [.b bg]),(15,L),(16,i)],
 [(0,some (An [.seq .u64 xs])),(1,some ⟨83,av r,false⟩),(2,some ⟨83,O7,false⟩),(3,some ⟨83,v,false⟩)],4,p⟩⟩
def Kq (r:R gx) (ic n m:Nat) (xs:dt) (bg:Bool) (v:List Ch) (i:AV) (p:List Bool):h_:=⟨Ams,⟨Dx f199.ntmps [(1,AQ 0 ic n m),(2,.val false [.p 1 0]),(4,.val false [.p 2 0]),(5,.val false [.p 4 0]),(6,.val false [.b bg]),(7,i)],
 [(0,some (An [.seq .u64 xs])),(1,some ⟨83,av r,false⟩),(2,some ⟨83,O7,false⟩),(4,some ⟨83,v,false⟩)],5,p⟩⟩
abbrev Zk:Option (List Nat×List Nat×Nat):=some ([1,2,4,5,6,15,16],[0,1,2,3],4)
abbrev Zl:Option (List Nat×List Nat×Nat):=some ([1,2,4,5,6,7],[0,1,2,4],5)
theorem Amt (r:R gx) (ic n m:Nat) (xs:dt):AZ dr oDr (some 0) 100 1 Zk (ppE r ic n m xs)=some ([(AK .i64 n,true)],[],Kp r ic n m xs false Hg (iA (wI (64*(n:Int)))) (.val false [.n .i64 0]) []):=dm
theorem Amu (r:R gx) (ic n m:Nat) (xs:dt):AZ dr oDr (some 0) 100 1 Zl (prE r ic n m xs)=some ([(AK .i64 n,true)],[],Kq r ic n m xs false Hg (iA (wI (wI (64*(n:Int))-1))) []):=dm
def NP (n:Nat) (i:Int):Int:=wI (wI (wI (64*(n:Int))-1)-i)
def WX (ic n:Nat) (xs:dt) (L i:Int) (bit:Bool):du:=[(decide (i<L),true),(AK .i64 n,true),(true,true),(decide (0≤wI (Int.tdiv (NP n i) 64)∧wI (Int.tdiv (NP n i) 64)<n),true),(decide (ic+(wI (Int.tdiv (NP n i) 64)).toNat*1<xs.length),true),
 (decide (0≤NP n i∧(0:Int)<64),true),(decide (0≤Int.tmod (NP n i) 64∧0≤CU xs ic (NP n i)),true),(decide (JG (CU xs ic (NP n i)) (Int.tmod (NP n i) 64)=1),bit)]
section
variable (r v:R gx) (ic n m:Nat) (xs:dt) (L i:Int)
theorem Amv:AZ dr oDr (some 0) 100 1 Zk (Kp r ic n m xs false (av v) (iA L) (iA i) eg)=some (WX ic n xs L i false,[],Kp r ic n m xs false (av v) (iA L) (iA (wI (i+1))) []):=dm
theorem Amw:AZ dr oDr (some 0) 100 1 Zk (Kp r ic n m xs false (av v) (iA L) (iA i) d_)=some (WX ic n xs L i true,[],Kp r ic n m xs true (av (mu gx v r)) (iA L) (iA (wI (i+1))) []):=dm
theorem Amx:AZ dr oDr (some 0) 100 1 Zk (Kp r ic n m xs true (av v) (iA L) (iA i) eg)=some (WX ic n xs L i false,[],Kp r ic n m xs true (av (mu gx v v)) (iA L) (iA (wI (i+1))) []):=dm
theorem Amy:AZ dr oDr (some 0) 100 1 Zk (Kp r ic n m xs true (av v) (iA L) (iA i) d_)=some (WX ic n xs L i true,[],Kp r ic n m xs true (av (mu gx (mu gx v v) r)) (iA L) (iA (wI (i+1))) []):=dm
theorem Amz (b:Bool):AU dr oDr f80 100 1 [] (Kp r ic n m xs b (av v) (iA L) (iA i) dx)=some ([(decide (i<L),false)],[],va gx v,[]):=dm
theorem Am0:AZ dr oDr (some 0) 100 1 Zl (Kq r ic n m xs false (av v) (iA i) eg)=some (LR ic n xs i false,[],Kq r ic n m xs false (av v) (iA (wI (i-1))) []):=dm
theorem Am1:AZ dr oDr (some 0) 100 1 Zl (Kq r ic n m xs false (av v) (iA i) d_)=some (LR ic n xs i true,[],Kq r ic n m xs true (av (mu gx v r)) (iA (wI (i-1))) []):=dm
theorem Am2:AZ dr oDr (some 0) 100 1 Zl (Kq r ic n m xs true (av v) (iA i) eg)=some (LR ic n xs i false,[],Kq r ic n m xs true (av (mu gx v v)) (iA (wI (i-1))) []):=dm
theorem Am3:AZ dr oDr (some 0) 100 1 Zl (Kq r ic n m xs true (av v) (iA i) d_)=some (LR ic n xs i true,[],Kq r ic n m xs true (av (mu gx (mu gx v v) r)) (iA (wI (i-1))) []):=dm
theorem Am4 (b:Bool):AU dr oDr f199 100 1 [] (Kq r ic n m xs b (av v) (iA i) dx)=some ([(decide (0≤i),false)],[],va gx v,[]):=dm
end
end
noncomputable section
theorem Am5 (a:gx) (k:Nat):pw a k*pw a k=pw a (k+k):=(Rt a k k).symm
def Jj (E c:Nat):Bool:=!decide (E / 2^c=0)
def DB (x:gx) (E c:Nat):R gx:=en (pw x (E / 2^c))
theorem AMc (x:gx) (E c:Nat):mu gx (DB x E c) (DB x E c)=en (pw x (2*(E / 2^c))):=by unfold DB mu;rw [mo_en,Am5,qq]
theorem AMd (x:R gx) (k:Nat):mu gx (en (pw (mo x) k)) x=en (pw (mo x) (k+1)):=by unfold mu;rw [mo_en];rfl
def pvM (S:Bool→R gx→Prop) (x v:R gx) (b:Bool) (bit:Nat):Prop:=match b with
 | false=>match bit with
  | 0=>S false v
  | _=>S true (mu gx v x)
 | true=>match bit with
  | 0=>S true (mu gx v v)
  | _=>S true (mu gx (mu gx v v) x)
theorem AMe {S:Bool→R gx→Prop} {x:R gx} {E c:Nat} (h:∀ b,b=Jj E c→S b (DB (mo x) E c)) (bit:Nat) (hb:E / 2^c % 2=bit):pvM S x (DB (mo x) E (c+1)) (Jj E (c+1)) bit:=by
 have hd:=gH E c;have hbit:bit=0∨bit=1:=dn
 cases hz:Jj E (c+1) with
 | false =>
  have h0:E / 2^(c+1)=0:=by
   have:decide (E / 2^(c+1)=0)=true:=by unfold Jj at hz;cases hq:decide (E / 2^(c+1)=0)<;>rw [hq] at hz<;>first | rfl | cases hz
   exact kj this
  rcases hbit with e | e
  ·subst e;have e1:E / 2^c=0:=dn
   have e2:DB (mo x) E (c+1)=DB (mo x) E c:=by unfold DB;rw [h0,e1]
   show S false (DB (mo x) E (c+1));rw [e2];exact h false (by unfold Jj;rw [jm e1];rfl)
  ·subst e;have e1:E / 2^c=1:=dn
   have e2:mu gx (DB (mo x) E (c+1)) x=DB (mo x) E c:=by unfold DB;rw [h0,e1,AMd]
   show S true (mu gx (DB (mo x) E (c+1)) x);rw [e2];exact h true (by unfold Jj;rw [jq dn];rfl)
 | true =>
  have h0:E / 2^(c+1)≠0:=by
   have:decide (E / 2^(c+1)=0)=false:=by unfold Jj at hz;cases hq:decide (E / 2^(c+1)=0)<;>rw [hq] at hz<;>first | rfl | cases hz
   exact qa this
  have hn:true=Jj E c:=by unfold Jj;rw [jq dn];rfl
  rcases hbit with e | e
  ·subst e;have e1:mu gx (DB (mo x) E (c+1)) (DB (mo x) E (c+1))=DB (mo x) E c:=by rw [AMc,show 2*(E / 2^(c+1))=E / 2^c by omega];rfl
   show S true (mu gx (DB (mo x) E (c+1)) (DB (mo x) E (c+1)));rw [e1];exact h true hn
  ·subst e;have e1:mu gx (mu gx (DB (mo x) E (c+1)) (DB (mo x) E (c+1))) x=DB (mo x) E c:=by rw [AMc,AMd,show 2*(E / 2^(c+1))+1=E / 2^c by omega];rfl
   show S true (mu gx (mu gx (DB (mo x) E (c+1)) (DB (mo x) E (c+1))) x);rw [e1];exact h true hn
section
variable {β0:Env} {w0:gn} (hb:∀ b,1≤b→β0 b=none) (x:R gx) {ic n:Nat} (m:Nat) {xs:dt} (ip:∀ d∈xs,0≤d∧d<18446744073709551616) (ii:ic+n≤xs.length) (hn:n≤1125899906842624)
include hb ip ii hn in
theorem AMf:∀ c b,c≤64*n→b=Jj (AI (AA xs ic n)) c→gz dr 199 β0 w0 (BA β0 w0 [] (ve (pw (mo x:gx) (AI (AA xs ic n)))) []) f199.ntmps [] (Kq x ic n m xs b (av (DB (mo x) (AI (AA xs ic n)) c)) (iA ((c:Int)-1)) [])
 | 0,b,_,_=>by
  have h:=A6 (w0:=w0) (W:=[]) (n:=f199.ntmps) Ko AB func199 (Am4 x (DB (mo x) (AI (AA xs ic n)) 0) ic n m xs (((0:Nat):Int)-1) b) ⟨rfl,trivial⟩ (AR dm) hb jl
  have e:DB (mo x) (AI (AA xs ic n)) 0=en (pw (mo x:gx) (AI (AA xs ic n))):=by unfold DB;rw [kx,ld]
  rw [e] at h ⊢;exact Ai dx h
 | c+1,b,hc,hbz=>by
  have hi:((c+1:Nat):Int)-1=(c:Int):=dn
  obtain ⟨hw,hjn,hv0,hr0,hbit⟩:=YY (ic:=ic) ip hn (c:=c) dn
  obtain ⟨hq1,hq2⟩:=X6 xs ic c;rw [← hq1] at hbit;have ja:wI ((c:Int)-1)=(c:Int)-1:=Au dn
  have iu:∀ bit,decide (LQ xs ic c=1)=bit→AM (LR ic n xs c bit):=by
   intro bit hbt;refine ⟨by simp,rfl,?_,?_,by simp,by simp only [jt];rw [hq2];exact ⟨hr0,hv0⟩,hbt,trivial⟩
   ·rw [hw];simp;omega
   ·rw [hw];simp;omega
  rw [hi];have ih:=AMe (S:=fun b v=>gz dr 199 β0 w0 (BA β0 w0 [] (ve (pw (mo x:gx) (AI (AA xs ic n)))) []) f199.ntmps [] (Kq x ic n m xs b (av v) (iA ((c:Int)-1)) [])) (x:=x) (fun b h=>AMf c b dn h)
  rcases nz (AI (AA xs ic n) / 2^c) with h0 | h1
  ·have hk:=iu false (by rw [hbit,h0];rfl)
   have ih:=ih 0 h0;rw [← hbz] at ih;cases b with
   | false=>exact Ai [true,false] (Aj Ko AB (Am0 ..) hk (AR dm) hb jl fun _=>by rw [ja];exact ih)
   | true=>exact Ai [true,false] (Aj Ko AB (Am2 ..) hk (AR dm) hb jl fun _=>by rw [ja];exact ih)
  ·have hk:=iu true (by rw [hbit,h1];rfl)
   have ih:=ih 1 h1;rw [← hbz] at ih;cases b with
   | false=>exact Ai [true,true] (Aj Ko AB (Am1 ..) hk (AR dm) hb jl fun _=>by rw [ja];exact ih)
   | true=>exact Ai [true,true] (Aj Ko AB (Am3 ..) hk (AR dm) hb jl fun _=>by rw [ja];exact ih)
include hb ip ii hn in
theorem AMg:∀ c b,c≤64*n→b=Jj (AI (AA xs ic n)) c→gz dr 80 β0 w0 (BA β0 w0 [] (ve (pw (mo x:gx) (AI (AA xs ic n)))) []) f80.ntmps [] (Kp x ic n m xs b (av (DB (mo x) (AI (AA xs ic n)) c)) (iA (64*(n:Int))) (iA (64*(n:Int)-c)) [])
 | 0,b,_,_=>by
  have h:=A6 (w0:=w0) (W:=[]) (n:=f80.ntmps) Ko AB func80 (Amz x (DB (mo x) (AI (AA xs ic n)) 0) ic n m xs (64*(n:Int)) (64*(n:Int)-((0:Nat):Int)) b) ⟨jq dn,trivial⟩ (AR dm) hb jl
  have e:DB (mo x) (AI (AA xs ic n)) 0=en (pw (mo x:gx) (AI (AA xs ic n))):=by unfold DB;rw [kx,ld]
  rw [e] at h ⊢;exact Ai dx h
 | c+1,b,hc,hbz=>by
  obtain ⟨hw,hjn,hv0,hr0,hbit⟩:=YY (ic:=ic) ip hn (c:=c) dn
  have hk:NP n (64*(n:Int)-((c+1:Nat):Int))=(c:Int):=by
   unfold NP;rw [Au (z:=64*(n:Int)) dn,Au (z:=64*(n:Int)-1) dn,Au dn];omega
  have ja:wI (64*(n:Int)-((c+1:Nat):Int)+1)=64*(n:Int)-(c:Int):=by rw [Au dn];omega
  have iu:∀ bit,decide (JG (CU xs ic c) (Int.tmod c 64)=1)=bit→AM (WX ic n xs (64*(n:Int)) (64*(n:Int)-((c+1:Nat):Int)) bit):=by
   intro bit hbt;unfold WX;rw [hk];refine ⟨jm dn,Mq hn,rfl,?_,?_,by simp,by simp only [jt];exact ⟨hr0,hv0⟩,hbt,trivial⟩
   ·rw [hw];simp;omega
   ·rw [hw];simp;omega
  have ih:=AMe (S:=fun b v=>gz dr 80 β0 w0 (BA β0 w0 [] (ve (pw (mo x:gx) (AI (AA xs ic n)))) []) f80.ntmps [] (Kp x ic n m xs b (av v) (iA (64*(n:Int))) (iA (64*(n:Int)-c)) [])) (x:=x) (fun b h=>AMg c b dn h)
  rcases nz (AI (AA xs ic n) / 2^c) with h0 | h1
  ·have hk:=iu false (by rw [hbit,h0];rfl)
   have ih:=ih 0 h0;rw [← hbz] at ih;cases b with
   | false=>exact Ai [true,false] (Aj Ko AB (Amv ..) hk (AR dm) hb jl fun _=>by rw [ja];exact ih)
   | true=>exact Ai [true,false] (Aj Ko AB (Amx ..) hk (AR dm) hb jl fun _=>by rw [ja];exact ih)
  ·have hk:=iu true (by rw [hbit,h1];rfl)
   have ih:=ih 1 h1;rw [← hbz] at ih;cases b with
   | false=>exact Ai [true,true] (Aj Ko AB (Amw ..) hk (AR dm) hb jl fun _=>by rw [ja];exact ih)
   | true=>exact Ai [true,true] (Aj Ko AB (Amy ..) hk (AR dm) hb jl fun _=>by rw [ja];exact ih)
end
theorem AMh {E n:Nat} (h:E<2^(64*n)):false=Jj E (64*n):=by unfold Jj;rw [mf h,jm rfl];rfl
theorem Am7 (x:gx) {E n:Nat} (h:E<2^(64*n)):DB x E (64*n)=en (1:gx):=by unfold DB;rw [mf h];rfl
theorem AMi {x:gx} {E n:Nat} (h:E<2^(64*n)) (β:Env) (l:List gq) (hl:AP β Hg l):AP β (av (DB x E (64*n))) l:=by rw [Am7 x h];exact ABi β l hl
theorem Am8 {ic n m:Nat} {xs:dt} (ip:∀ d∈xs,0≤d∧d<18446744073709551616) (ii:ic+n≤xs.length) (hn:n≤1125899906842624) (x:R gx) :
  Ab dr 199 [va gx x,AQ 0 ic n m] (BE xs) 1 [] (ve (pw (mo x:gx) (AI (AA xs ic n)))) []:=by
 refine A_ (ie:=[]) func199 dm dm fun β0 w0 hb=>?_
 refine Aj Ko AB (Amu x ic n m xs) ⟨Mq hn,trivial⟩ (AR dm) hb jl fun _=>?_
 have hl:=YZ ip ii;have e3:wI (wI (64*(n:Int))-1)=((64*n:Nat):Int)-1:=by
  rw [Au (z:=64*(n:Int)) dn,Au dn];omega
 rw [e3];refine N6 ?_ (AMf hb x m ip ii hn (64*n) false (ju _) (AMh hl))
 exact ⟨rfl,rfl,rfl,fun β l h=>h,rfl,rfl,rfl,fun β l h=>h,rfl,rfl,rfl,fun β l h=>h,rfl,rfl,rfl,AMi hl,trivial⟩
theorem Am9 {ic n m:Nat} {xs:dt} (ip:∀ d∈xs,0≤d∧d<18446744073709551616) (ii:ic+n≤xs.length) (hn:n≤1125899906842624) (x:R gx) :
  Ab dr 80 [va gx x,AQ 0 ic n m] (BE xs) 1 [] (ve (pw (mo x:gx) (AI (AA xs ic n)))) []:=by
 refine A_ (ie:=[]) func80 dm dm fun β0 w0 hb=>?_
 refine Aj Ko AB (Amt x ic n m xs) ⟨Mq hn,trivial⟩ (AR dm) hb jl fun _=>?_
 have hl:=YZ ip ii;have h:=AMg (w0:=w0) hb x m ip ii hn (64*n) false (ju _) (AMh hl)
 have e3:64*(n:Int)-((64*n:Nat):Int)=0:=dn
 rw [e3] at h;rw [Au (z:=64*(n:Int)) dn];refine Hv (N6 ?_ h)
 exact ⟨rfl,rfl,rfl,fun β l h=>h,rfl,rfl,rfl,fun β l h=>h,rfl,rfl,rfl,fun β l h=>h,rfl,rfl,rfl,AMi hl,trivial⟩
theorem AMj:∃ f:gx→Nat→gx,∀ a k,f a k=pw a k:=⟨_,fun _ _=>rfl⟩
def Zm:gx→Nat→gx:=Classical.choose AMj
theorem Zn (a:gx) (k:Nat):Zm a k=pw a k:=lf AMj a k
def SDt:dw:=(80,D3 (Yu gx fun r l=>ve (Zm (mo r:gx) (AI l))))::(199,Yu gx fun r l=>ve (Zm (mo r:gx) (AI l)))::SDr
theorem AMk:AX dr SDt:=⟨EK (yA func80 dm dm (fun _ _=>by kernel_rfl) fun _ _ _ _ r hx hl hn=>by rw [Zn];exact Am9 hx hl hn r),yA func199 dm dm (fun _ _=>by kernel_rfl) fun _ _ _ _ r hx hl hn=>by rw [Zn];exact Am8 hx hl hn r,AMZ⟩
noncomputable abbrev oDt:ia:=AG SDt KV
theorem Zo:g_ dr oDt:=AH AMk BR
end
noncomputable section
def SDu0:dw:=(271,BF dr oDt f271 300)::(156,BF dr oDt f156 300)::(226,BF dr oDt f226 300)::(200,BF dr oDt f200 300)::(54,BF dr oDt f54 300)::SDt
theorem AMl:AX dr SDu0:=⟨BJ Zo AB func271 dm dm 300,BJ Zo AB func156 dm dm 300,BJ Zo AB func226 dm dm 300,BJ Zo AB func200 dm dm 300,BJ Zo AB func54 dm dm 300,AMk⟩
noncomputable abbrev oDu0:ia:=AG SDu0 KV
theorem Am_:g_ dr oDu0:=AH AMl BR
def SDu1:dw:=(225,BF dr oDu0 f225 300)::SDu0
theorem AMm:AX dr SDu1:=⟨BJ Am_ AB func225 dm dm 300,AMl⟩
noncomputable abbrev oDu1:ia:=AG SDu1 KV
theorem AMn:g_ dr oDu1:=AH AMm BR
def Kr (r:R gx):R gx:=en (fbO (mo r))
def Ks (r:R gx) (l:dt):R gx:=en (Zm (mo r) (AI (AA l 0 l.length)))
def eeL:dt:=[0x8c00aaab0000aaab,0x396c8c005555e156]
def xxL:dt:=[0xd201000000010000]
def rg (f:R gx):R gx:=mu gx (II f) (iv gx f)
def rh (g:R gx):R gx:=mu gx (Kr (Kr g)) g
def rbb (a:R gx):R gx:=mu gx (II (Ks a xxL)) (Kr a)
def rcc (b:R gx):R gx:=mu gx (mu gx (II (Ks (II (Ks b xxL)) xxL)) (Kr (Kr b))) (II b)
def ABs (f:R gx):R gx:=mu gx (rcc (rbb (Ks (rh (rg f)) eeL))) (rh (rg f))
theorem Am' (r:R gx):AJ dr oDu1 f124 [va gx r] [] 2000=some (tt 8 [],va gx (ABs r)):=dm
def pg (f:R gx):R gx:=mu gx (mu gx o12 (II f)) (iv gx f)
def ph (g:R gx):R gx:=mu gx (mu gx o12 (Kr (Kr (re gx g)))) g
def pbb (a:R gx):R gx:=mu gx (mu gx o12 (II (Ks a xxL))) (Kr (re gx a))
def pcc (b:R gx):R gx:=mu gx (mu gx (mu gx o12 (Ks (Ks b xxL) xxL)) (Kr (Kr (re gx b)))) (II b)
def ABt (f:R gx):R gx:=mu gx (mu gx o12 (pcc (pbb (Ks (ph (pg f)) eeL)))) (ph (pg f))
def AnA:List Bool:=[true,true,false,true,true,false,true,true,false,true,true,true,false,true,true,false]
theorem AnB (r:R gx):AJ dr oDu1 f158 [va gx r] AnA 2000=some (tt 5 ((false,false)::tt 5 ((false,false)::tt 9 ((false,false)::tt 11 ((false,false)::tt 5 ((false,false)::[]))))),va gx (ABt r)):=dm
end
noncomputable section
section
variable (a b:R gx)
theorem AMs:(mo (mu gx a b):gx)=mo a*mo b:=mo_en _
theorem AMt:(mo (II a):gx)=Qx.conj (mo a):=mo_en _
theorem AMu:(mo (iv gx a):gx)=FD.inv (mo a):=mo_en _
theorem AnC:(mo (re gx a):gx)=mo a:=mo_en _
theorem AMv:(mo (Kr a):gx)=gu (mo a):=by unfold Kr;rw [mo_en,ABr]
theorem AnD:AI (AA eeL 0 eeL.length)=EE:=by rw [Ai'];kernel_rfl
theorem AnE:AI (AA xxL 0 xxL.length)=XX:=by rw [Ai_];kernel_rfl
theorem AMw:(mo (Ks a eeL):gx)=pw (mo a) EE:=by unfold Ks;rw [mo_en,Zn,AnD]
theorem AMx:(mo (Ks a xxL):gx)=pw (mo a) XX:=by unfold Ks;rw [mo_en,Zn,AnE]
theorem AnF:(mo o12:gx)=1:=by rw [Tj];exact mo_en _
theorem AMy:mu gx a b=en (mo a*mo b:gx):=rfl
end
theorem AnG (x:gx) (k:Nat):Qx.conj (pw (Qx.conj x) k)=pw x k:=by
 rw [(Qx.conj_rh (β:=vv)).mh.pwc,Qx.conj_conj]
theorem AnH (f:R gx):ABs f=en (finF (mo f)):=by
 unfold ABs;rw [AMy];refine jw en ?_
 simp only [rcc,rbb,rh,rg,AMs,AMt,AMu,AMv,AMw,AMx,AnG,finF,TD]
theorem AnI (f:R gx):ABt f=en (finF (mo f)):=by
 unfold ABt;rw [AMy];refine jw en ?_
 simp only [pcc,pbb,ph,pg,AMs,AMt,AMu,AMv,AMw,AMx,AnC,AnF,Rg.one_mul,finF,TD]
theorem AMz:∃ f:gx→gx,∀ x,f x=finF x:=⟨_,fun _=>rfl⟩
def fiO:gx→gx:=Classical.choose AMz
theorem ABv (x:gx):fiO x=finF x:=lf AMz x
def WY (r:R gx):AV:=va gx (en (fiO (mo r)))
theorem AnJ (r:R gx):AT dr 158 [va gx r] (WY r):=by
 unfold WY;rw [ABv,← AnI];exact AN AMn AB func158 (AnB r) (AY 5 ⟨rfl,AY 5 ⟨rfl,AY 9 ⟨rfl,AY 11 ⟨rfl,AY 5 ⟨rfl,trivial⟩⟩⟩⟩⟩) rfl
theorem AnK (r:R gx):AT dr 124 [va gx r] (WY r):=by
 unfold WY;rw [ABv,← AnH];exact AN AMn AB func124 (Am' r) (AY 8 trivial) rfl
def SDv:dw:=(158,Af (BZ gx WY))::(124,Af (BZ gx WY))::SDu1
theorem AnL:AX dr SDv:=⟨Ah func158 dm dm (Bi AnJ),Ah func124 dm dm (Bi AnK),AMm⟩
end
noncomputable section
noncomputable def SEa0:dw:=SDv++(SCj++SCl1)
theorem AM0:AX dr SEa0:=H9 AnL (H9 AkN AkQ)
noncomputable abbrev oEa0:ia:=AG SEa0 KV
theorem ABw:g_ dr oEa0:=AH AM0 BR
noncomputable def SEa1:dw:=(79,BF dr oEa0 f79 2000)::(56,BF dr oEa0 f56 2000)::(77,BF dr oEa0 f77 300)::SEa0
theorem AnM:AX dr SEa1:=⟨BJ ABw AB func79 dm dm 2000,BJ ABw AB func56 dm dm 2000,BJ ABw AB func77 dm dm 300,AM0⟩
def KW12:List (gt×List (Option IntKind)):=(83,List.replicate 72 (some .u64))::KV
theorem To:MU dr KW12:=⟨⟨dm,dm,dm⟩,BR⟩
end
noncomputable section
noncomputable def SEb0:dw:=SWe++(SEa1++SVg)
theorem mR:AX dr SEb0:=H9 AJz (H9 AnM jG)
noncomputable abbrev oEb0:ia:=AG SEb0 KW12
theorem ABx:g_ dr oEb0:=AH mR To
noncomputable def SEb1:dw:=(32,BF dr oEb0 f32 900)::(30,BF dr oEb0 f30 300)::(12,BF dr oEb0 f12 300)::SEb0
theorem AnN:AX dr SEb1:=⟨BJ ABx AB func32 dm dm 900,BJ ABx AB func30 dm dm 300,BJ ABx AB func12 dm dm 300,mR⟩
noncomputable abbrev oEb1:ia:=AG SEb1 KW12
theorem AM1:g_ dr oEb1:=AH AnN To
end
noncomputable section
theorem AM2 (l x y:gw) (a b:FP):NO l x y a (-b)=Qx.conj (NO l x y a b):=Qx.ext rfl (Kx.ext (HN (F:=gw)).symm (Qx.ext rfl (HN (F:=FP)).symm) (HN (F:=gw)).symm)
theorem AnO (x:gw) (a:FP):Qx.conj (O5 x a)=O5 x a:=Qx.ext rfl (HN (F:=gy))
theorem AM3 (T Q:P2) (p:Pt FP):IG T Q (Rg.neg p)=Qx.conj (IG T Q p):=by
 have h1:(1:gx)=Qx.conj 1:=(Qx.conj_rh.one).symm
 cases p with
 | inf=>exact h1
 | pt a b=>cases T with
  | inf=>exact h1
  | pt x y=>cases Q with
   | inf=>exact h1
   | pt x' y' =>
    show Qq x y x' y' a (-b)=Qx.conj (Qq x y x' y' a b);unfold Qq;split
    ·split
     ·exact AM2 ..
     ·exact (AnO ..).symm
    ·exact AM2 ..
theorem ABy (p:Pt FP) (q:P2):∀ (c:Nat) (f:gx) (t:P2),HD (Rg.neg p) q c (Qx.conj f) t=Qx.conj (HD p q c f t)
 | 0,_,_=>rfl
 | c+1,f,t=>by
  unfold HD;cases O6 c with
  | true =>
   simp only [AM3,← Qx.conj_rh.mul];exact ABy p q c _ _
  | false =>
   simp only [AM3,← Qx.conj_rh.mul];exact ABy p q c _ _
theorem AnP (p:Pt FP):BH (Rg.neg p)=BH p:=by
 cases p with
 | inf=>rfl
 | pt a b =>
  have e:(-b)*(-b)=b*b:=ring [b] dm
  simp only [BH,Rg.neg,e]
theorem AnQ (p:Pt FP) (q:P2):DA (Rg.neg p) q=Qx.conj (DA p q):=by
 have hI:MC (Rg.neg p) q=MC p q:=by cases p<;>rfl
 have hB:Hh (Rg.neg p) q=Hh p q:=by unfold Hh;rw [AnP]
 unfold DA;rw [hI,hB];cases Hh p q with
 | false=>exact (Qx.conj_rh.zero).symm
 | true=>cases MC p q with
  | true=>exact (Qx.conj_rh.one).symm
  | false =>
   have:=ABy p q 63 1 q
   rw [Qx.conj_rh.one] at this;show Qx.conj (HD (Rg.neg p) q 63 1 q)=Qx.conj (Qx.conj (HD p q 63 1 q));rw [this]
theorem ABz {T Q:P2} {a b:FP} (ha:a≠0) (hb:b≠0):IG T Q (.pt a b)≠0:=by
 have h1:(1:gx)≠0:=FD.one_ne
 have hl:∀ l x y:gw,NO l x y a b≠0:=fun l x y e=>hb (jw (fun z:gx=>z.b.b.a) e)
 have hu:∀ x:gw,O5 x a≠0:=fun x e=>by
  have:-a=0:=jw (fun z:gx=>z.a.b.a) e
  exact ha (by rw [← Rg.neg_neg a,this,HN])
 cases T with
 | inf=>exact h1
 | pt x y=>cases Q with
  | inf=>exact h1
  | pt x' y' =>
   show Qq x y x' y' a b≠0;unfold Qq;split
   ·split
    ·exact hl _ _ _
    ·exact hu _
   ·exact hl _ _ _
theorem AB0 {a b:FP} (ha:a≠0) (hb:b≠0) (q:P2):∀ (c:Nat) (f:gx) (t:P2),f≠0→HD (.pt a b) q c f t≠0
 | 0,_,_,h=>h
 | c+1,f,t,h=>by
  unfold HD;cases O6 c with
  | true=>exact AB0 ha hb q c _ _ (DC (DC h h) (ABz ha hb))
  | false=>exact AB0 ha hb q c _ _ (DC (DC (DC h h) (ABz ha hb)) (ABz ha hb))
theorem AnR {a b:FP} (ha:a≠0) (hb:b≠0) {q:P2} (h:Hh (.pt a b) q=true):DA (.pt a b) q≠0:=by
 unfold DA;rw [h];have h1:(1:gx)≠0:=FD.one_ne
 cases MC (.pt a b) q with
 | true=>exact h1
 | false =>
  intro e;refine AB0 ha hb q 63 1 q h1 ?_
  have:Qx.conj (Qx.conj (HD (.pt a b) q 63 1 q))=Qx.conj 0:=jw Qx.conj e
  rwa [Qx.conj_conj,Qx.conj_rh.zero] at this
theorem AnS {a b:FP} (ha:a≠0) (hb:b≠0) {q:P2} (h:Hh (.pt a b) q=true) (A:gx):A*finF (DA (Rg.neg (.pt a b)) q)=1↔A=finF (DA (.pt a b) q):=by
 have e:=AjA (AnR ha hb h)
 rw [AnQ];constructor
 ·intro h;have:A*finF (Qx.conj (DA (.pt a b) q))*finF (DA (.pt a b) q)=finF (DA (.pt a b) q):=by rw [h,Rg.one_mul]
  rw [mul_assoc,mul_comm (finF (Qx.conj _)),e,mul_one] at this;exact this
 ·rintro rfl
  exact e
end
abbrev Rw:Type:=Nat×Nat×Nat×dt
def rowAt (H:Heap) (c:Ch):Option Rw:=match Io (.val false [c]) with
 | some (k,n,m)=>match AF H k with
  | some ⟨_,cs,_⟩=>match A' .u8 cs with
   | some xs=>some (k,n,m,xs)
   | none=>none
  | none=>none
 | none=>none
def Qs (H:Heap):List Ch→Option (List Rw)
 | []=>some []
 | c::r=>match rowAt H c,Qs H r with
  | some x,some l=>some (x::l)
  | _,_=>none
def BO (r:Rw):Bool:=Nat.ble r.2.1 r.2.2.2.length&&(Nat.ble r.2.1 r.2.2.1&&(AK .i64 (r.2.1:Int)&&Nat.ble r.2.1 4398046511104))
def E4:List Rw→Bool
 | []=>true
 | r::l=>BO r&&E4 l
def AS (r:Rw):dt:=AA r.2.2.2 0 r.2.1
def DT:List Rw→List (dt)
 | []=>[]
 | r::l=>AS r::DT l
def ET (j:Nat):List Rw→List Ch
 | []=>[]
 | r::l=>.sl j 0 r.2.1 r.2.2.1::ET (j+1) l
def D1:List Rw→List ib
 | []=>[]
 | r::l=>An [.seq .u8 r.2.2.2]::D1 l
def CN:List Rw→List Nat
 | []=>[]
 | r::l=>r.1::CN l
def EF:List Rw→Nat
 | []=>0
 | _::l=>EF l+1
theorem Qt:∀ l:List Rw,EF l=l.length
 | []=>rfl
 | _::l=>by rw [EF,Qt l];rfl
def O8 (H:Heap) (A:AV):Option (Nat×Nat×List Rw):=match DS A with
 | some (K,0,n)=>match AF H K with
  | some ⟨_,cs,_⟩=>match Qs H cs with
   | some rs=>some (K,n,rs)
   | none=>none
  | none=>none
 | _=>none
theorem Zp {r:Rw} (h:BO r=true):r.2.1≤r.2.2.2.length∧r.2.1≤r.2.2.1∧AK .i64 (r.2.1:Int)=true∧r.2.1≤4398046511104:=by
 unfold BO at h;obtain ⟨h1,h⟩:=jy.1 h;obtain ⟨h2,h⟩:=jy.1 h;obtain ⟨h3,h4⟩:=jy.1 h;exact ⟨jp h1,jp h2,h3,jp h4⟩
theorem AM4 {k n m:Nat} {xs:dt} (h1:n≤xs.length) (h2:n≤m) (h3:AK .i64 (n:Int)=true) (h4:n≤4398046511104):BO (k,n,m,xs)=true:=by
 unfold BO;simp only [jr h1,jr h2,h3,jr h4];rfl
theorem IJ:∀ {l:List Rw} {r:Rw},E4 l=true→r∈l→BO r=true
 | x::l,r,h,hr=>by
  obtain ⟨h1,h2⟩:=jy.1 h;rcases ka.1 hr with rfl | hr
  ·exact h1
  ·exact IJ h2 hr
def Tp (β:Env) (w:gn) (r:Rw):Prop:=(∃ X,β r.1=some X)∧∀ (β':Env) (j:Nat),β' j=β r.1→DK β' (An [.seq .u8 r.2.2.2]) j w
theorem Qu {β β':Env} {k j n m:Nat} {l:List gq} (e:β' j=β k) (h:BM β (.sl k 0 n m) l):BM β' (.sl j 0 n m) l:=by
 rcases h with ⟨B,q,q1,q2⟩ | ⟨q1,q2⟩ | ⟨q1,q2⟩
 ·exact .inl ⟨B,q,by rw [e];exact q1,q2⟩
 ·exact .inr (.inl ⟨by rw [e];exact q1,q2⟩)
 ·exact .inr (.inr ⟨by rw [e];exact q1,q2⟩)
theorem AnT {β:Env} {c:Ch} {x:Nat×Nat×Nat} (h:Io (.val false [c])=some x) {l:List gq} (hr:BM β c l):∃ u,l=[u]:=by
 unfold Io at h;split at h
 ·rename_i he;injection he with _ he;injection he with he _;subst he;rcases hr with ⟨B,q,_,e⟩ | ⟨_,_,_,_,e⟩ | ⟨_,_,_,_,_,_,e⟩<;>exact ⟨_,e⟩
 ·rename_i he;injection he with _ he;injection he with he _;subst he;rcases hr with ⟨B,q,cap,_,e,_⟩ | ⟨_,_,e⟩<;>exact ⟨_,e⟩
 ·cases h
theorem WZ {β:Env} {H:Heap} {w:gn} {c:Ch} {r:Rw} {l:List gq} (hg:Ex.Good β H w) (h:rowAt H c=some r) (hb:BO r=true) (hr:BM β c l) :
  ∃ m,BO (r.1,r.2.1,m,r.2.2.2)=true∧BM β (.sl r.1 0 r.2.1 m) l∧Tp β w (r.1,r.2.1,m,r.2.2.2):=by
 obtain ⟨b1,b2,b3,b4⟩:=Zp hb;unfold rowAt at h;split at h;case h_2=>cases h
 rename_i k n m hS;split at h;case h_2=>cases h
 rename_i ty cs o hk;split at h;case h_2=>cases h
 rename_i xs hx;injection h with h;subst h;obtain ⟨u,rfl⟩:=AnT hS hr;obtain ⟨m',hm',r1⟩:=KO hS b2 (Az hr)
 refine ⟨m',AM4 b1 hm' b3 b4,A5 r1,CM (hg.heap _ _ hk),fun β' j e=>?_⟩
 refine UU (hg.heap _ _ hk) e (.inl ⟨rfl,rfl,nofun⟩) fun l h=>?_
 obtain ⟨q1,q2⟩:=DL hx h;exact ⟨_,[],⟨q1,q2⟩,rfl,by simp⟩
theorem AM5 {β:Env} {H:Heap} {w:gn} (hg:Ex.Good β H w):∀ {cs:List Ch} {rs:List Rw} {l:List gq},Qs H cs=some rs→E4 rs=true→AP β cs l →
  ∃ rs':List Rw,E4 rs'=true∧DT rs'=DT rs∧CN rs'=CN rs∧(∀ r∈rs',Tp β w r)∧∀ (β':Env) (j:Nat),(∀ i r,rs'[i]? = some r→β' (j+i)=β r.1)→AP β' (ET j rs') l
 | [],rs,l,h,_,hr=>by
  injection h with h;subst h;exact ⟨[],rfl,rfl,rfl,jl,fun _ _ _=>hr⟩
 | c::cs,rs,l,h,hb,⟨l1,l2,h1,h2,h3⟩=>by
  simp only [Qs] at h;split at h;case h_2=>cases h
  rename_i x rl hx hrl;injection h with h;subst h;obtain ⟨b1,b2⟩:=jy.1 hb;obtain ⟨m,m1,m2,m3⟩:=WZ hg hx b1 h1;obtain ⟨rs',r1,r2,r3,r4,r5⟩:=AM5 hg hrl b2 h2;refine ⟨(x.1,x.2.1,m,x.2.2.2)::rs',jy.2 ⟨m1,r1⟩,?_,?_,fun r hr=>?_,fun β' j hj=>?_⟩
  ·show AS _::_=AS _::_;rw [r2];rfl
  ·show _::_=_::_;rw [r3]
  ·rcases ka.1 hr with rfl | hr
   ·exact m3
   ·exact r4 r hr
  ·refine ⟨l1,l2,Qu (hj 0 _ rfl) m2,r5 β' (j+1) fun i r hi=>?_,h3⟩
   rw [show j+1+i=j+(i+1) by omega]
   exact hj (i+1) r hi
theorem AM6 {H:Heap}:∀ {cs:List Ch} {rs:List Rw},Qs H cs=some rs→IQ cs=true
 | [],_,_=>rfl
 | c::cs,rs,h=>by
  simp only [Qs] at h;split at h;case h_2=>cases h
  rename_i x rl hx hrl;have ih:=AM6 hrl;unfold rowAt at hx;split at hx;case h_2=>cases hx
  rename_i k n m hS;unfold Io at hS;split at hS
  ·rename_i he;injection he with _ he;injection he with he _;subst he;exact ih
  ·rename_i he;injection he with _ he;injection he with he _;subst he;exact ih
  ·cases hS
theorem AM7 {β:Env} {K:Nat} {b:ib} {w:gn} (h:DK β b K w) (hw:IQ b.cs=true):∃ l,AP β b.cs l∧∀ (β':Env) (cs':List Ch) (K':Nat),β' K'=β K→AP β' cs' l→DK β' (An cs') K' w:=by
 rcases h with ⟨B,n,l,t,pre,ty',fz,q1,q2,q3,q4,_⟩ | ⟨X,q1,q2,q3⟩ | ⟨B,l,es,q,q1,q2,q3,q4⟩
 ·exact ⟨l,q2,fun β' cs' j he hr=>.inl ⟨B,n,l,t,pre,ty',fz,he.trans q1,hr,q3,q4,fun h=>absurd rfl h⟩⟩
 ·refine ⟨[],q3,fun β' cs' j he hr=>.inr (.inl ⟨X,he.trans q1,?_,hr⟩)⟩
  cases X with
  | at_=>exact q2
  | nil=>exact Or.inr rfl
  | emp=>exact ⟨rfl,rfl⟩
 ·exact absurd (qr ..) (Z2 hw q3)
theorem AM8:∀ {fs:List Rw} {i:Nat} {d:ib},(D1 fs)[i]? = some d→∃ r,fs[i]? = some r∧d=An [.seq .u8 r.2.2.2]
 | [],_,_,h=>by simp [D1] at h
 | r::fs,0,d,h=>⟨r,rfl,by simpa [D1] using h.symm⟩
 | r::fs,i+1,d,h=>by
  obtain ⟨x,h1,h2⟩:=AM8 (fs:=fs) (i:=i) (by simpa [D1] using h)
  exact ⟨x,by simpa using h1,h2⟩
theorem We:∀ fs:List Rw,(D1 fs).length=fs.length
 | []=>rfl
 | _::fs=>by rw [D1,k_,We fs,k_]
theorem AB1 (b:List Nat) (i:Nat):∀ a:List Nat,Ex.nth (a++b) (a.length+i)=Ex.nth b i
 | []=>by rw [oh,tj,kr]
 | x::a=>by
  rw [n_,k_,show a.length+1+i=(a.length+i)+1 by omega]
  exact AB1 b i a
theorem AM9 (b:List Nat):∀ (a:List Nat) (i:Nat),i<a.length→Ex.nth (a++b) i=Ex.nth a i
 | [],_,h=>by simp at h
 | _::_,0,_=>rfl
 | _::a,i+1,h=>AM9 b a i (by simpa using h)
theorem AB2:∀ {fs:List Rw} {i:Nat} {r:Rw},fs[i]? = some r→Ex.nth (CN fs) i=r.1
 | [],_,_,h=>by simp at h
 | x::fs,0,r,h=>by injection h with h;subst h;rfl
 | x::fs,i+1,r,h=>AB2 (fs:=fs) (by simpa using h)
section
variable {β:Env} {H:Heap} {w:gn} {hs:List Nat} {hb:List ib} {fs:List Rw}
theorem AB3 (hl:hb.length=hs.length) {i:Nat} {r:Rw} (h:fs[i]? = some r):A9 β (hs++CN fs) (hb++D1 fs).length (hs.length+i)=β r.1:=by
 have hi:i<fs.length:=by
  rcases kf i fs.length with q | q
  ·exact q
  ·rw [mq q] at h;cases h
 rw [E6 (by rw [ku,We,hl];omega),AB1,AB2 h]
theorem AM_ (g:Ex.Good β H w) (hl:hb.length=hs.length) (hv:∀ r∈fs,Tp β w r) (hh:∀ j d,hb[j]? = some d→d.ty=Br∧DK (A9 β (hs++CN fs) (hb++D1 fs).length) d j w) :
  Ex.Good (A9 β (hs++CN fs) (hb++D1 fs).length) (LG 0 (hb++D1 fs)) w:=by
 refine NJ g fun j d hj=>?_
 rcases kf j hb.length with q | q
 ·rw [om q] at hj;exact hh j d hj
 ·rw [ru q] at hj;obtain ⟨r,h1,rfl⟩:=AM8 hj;refine ⟨rfl,(hv r (pm h1)).2 _ j ?_⟩
  have:=AB3 (β:=β) hl h1
  rwa [show hs.length+(j-hb.length)=j by omega] at this
theorem AM' (hl:hb.length=hs.length) (hv:∀ r∈fs,Tp β w r) (hh:∀ j,j<hs.length→∃ X,β (Ex.nth hs j)=some X):∀ k,k<(hb++D1 fs).length→∃ X,β (Ex.nth (hs++CN fs) k)=some X:=by
 intro k hk;rw [ku,We] at hk;rcases kf k hs.length with q | q
 ·rw [AM9 _ _ _ q];exact hh k q
 ·have hi:k-hs.length<fs.length:=dn
  have e:fs[k-hs.length]? = some fs[k-hs.length]:=nh hi
  have:=AB1 (CN fs) (k-hs.length) hs
  rw [show hs.length+(k-hs.length)=k by omega] at this
  rw [this,AB2 e];exact (hv _ (pm e)).1
end
theorem AB4 {β:Env} {H:Heap} {w:gn} {A:AV} {K n:Nat} {rs:List Rw} {u:gq} (hg:Ex.Good β H w) (h:O8 H A=some (K,n,rs)) (hb:E4 rs=true) (hr:AO β A u) :
  ∃ (M:Nat) (rs':List Rw),E4 rs'=true∧DT rs'=DT rs∧CN rs'=CN rs∧(∀ r∈rs',Tp β w r)∧(∃ X,β K=some X)∧(∀ (β':Env) (j:Nat),β' j=β K→AO β' (AQ j 0 n M) u) ∧
   ∀ (β':Env) (j K':Nat),β' K'=β K→(∀ i r,rs'[i]? = some r→β' (j+i)=β r.1)→DK β' (An (ET j rs')) K' w:=by
 unfold O8 at h;split at h;case h_2=>cases h
 rename_i K' n' hS;split at h;case h_2=>cases h
 rename_i ty cs o hk;split at h;case h_2=>cases h
 rename_i rl hrl;injection h with h;injection h with e1 h;injection h with e2 e3;subst e1;subst e2;subst e3;obtain ⟨M,r1⟩:=E8 hS hr;obtain ⟨l,l1,l2⟩:=AM7 (hg.heap _ _ hk) (AM6 hrl)
 obtain ⟨rs',q1,q2,q3,q4,q5⟩:=AM5 hg hrl hb l1;refine ⟨M,rs',q1,q2,q3,q4,CM (hg.heap _ _ hk),fun β' j e=>?_,fun β' j K2 e he=>l2 β' _ K2 e (q5 β' j he)⟩
 obtain ⟨x1,x2,y1,y2,y3⟩:=r1;exact ⟨x1,x2,Qu e y1,y2,y3⟩
theorem AB5 {a b:List Rw} (h:DT a=DT b):a.length=b.length:=by
 have e:∀ l:List Rw,(DT l).length=l.length:=by
  intro l;induction l with
  | nil=>rfl
  | cons x l ih=>rw [DT,k_,ih,k_]
 rw [← e a,← e b,h]
def mS:Ch→Option Nat
 | .sl _ _ n _=>some n
 | .sx _ n _=>some n
 | .v (.slice _ n _)=>some n
 | _=>none
def Wf:List Ch→Option (List Nat)
 | []=>some []
 | c::r=>match mS c,Wf r with
  | some n,some l=>some (n::l)
  | _,_=>none
def Jn:List Nat→Bool
 | []=>true
 | n::r=>Nat.ble n 300&&Jn r
def Wg:List Nat→Bool
 | []=>true
 | n::r=>AK .i64 (n:Int)&&Wg r
def E5 (x:Option Addr×Nat×Nat):Ch:=.v (.slice x.1 x.2.1 x.2.2)
noncomputable def Kt:ia:=AG [] KV
noncomputable def Ku (n M:Nat) (cs:List Ch) (p:List Bool):h_:=Ak f8 [AQ 0 0 n M] [(0,some (An cs))] 1 p
theorem AnU {β:Env} {c:Ch} {n:Nat} {l:List gq} (h:mS c=some n) (hr:BM β c l):∃ (oa:Option Addr) (m:Nat),l=[.slice oa n m]:=by
 unfold mS at h;split at h
 ·injection h with h;subst h;rcases hr with ⟨B,q,_,e⟩ | ⟨_,_,rfl,_,e⟩ | ⟨_,_,rfl,_,a,m,e⟩<;>exact ⟨_,_,e⟩
 ·injection h with h;subst h;rcases hr with ⟨B,q,cap,_,e,_⟩ | ⟨_,rfl,e⟩<;>exact ⟨_,_,e⟩
 ·injection h with h;subst h;exact ⟨_,_,hr.1⟩
 ·cases h
def Zq (xs:List (Option Addr×Nat×Nat)):List Nat:=xs.map (·.2.1)
theorem ANA {β:Env}:∀ {cs:List Ch} {ns:List Nat} {l:List gq},Wf cs=some ns→AP β cs l→∃ xs:List (Option Addr×Nat×Nat),Zq xs=ns∧∀ β':Env,AP β' (xs.map E5) l
 | [],ns,l,h,hr=>by injection h with h;subst h;exact ⟨[],rfl,fun _=>hr⟩
 | c::cs,ns,l,h,⟨l1,l2,h1,h2,h3⟩=>by
  simp only [Wf] at h;split at h;case h_2=>cases h
  rename_i n r hn hr;injection h with h;subst h;obtain ⟨oa,m,rfl⟩:=AnU hn h1;obtain ⟨xs,e,hx⟩:=ANA hr h2;exact ⟨(oa,n,m)::xs,by rw [← e];rfl,fun β'=>⟨_,l2,⟨rfl,rfl,trivial⟩,hx β',h3⟩⟩
theorem ANB:∀ {cs:List Ch} {ns:List Nat},Wf cs=some ns→IQ cs=true
 | [],_,_=>rfl
 | c::cs,ns,h=>by
  simp only [Wf] at h;split at h;case h_2=>cases h
  rename_i n r hn hr;have ih:=ANB hr;unfold mS at hn;split at hn
  ·exact ih
  ·exact ih
  ·exact ih
  ·cases hn
def fewSp:ASpec:=fun args H fr ie=>match args,ie with
 | [A],true::ij=>match DS A with
  | some (K,0,n)=>some (BP [K] 1 fr 0 [] (.val false [.b false]) [] [(AK .i64 (n:Int),true),(decide ((3:Int)<n),true)] ij)
  | _=>none
 | [A],false::ij=>match DS A with
  | some (K,0,n)=>match AF H K with
   | some ⟨_,cs,_⟩=>match Wf cs with
    | some ns=>some (BP [K] 1 fr 0 [] (Aw (Jn ns)) [] [(Nat.beq n ns.length&&Nat.ble n 3,true),(Wg ns,true)] ij)
    | none=>none
   | none=>none
  | _=>none
 | _,_=>none
section
variable (n M:Nat) (x y z:Option Addr×Nat×Nat)
def Hj (x:Option Addr×Nat×Nat) (b:Bool) (r:du):du:=tt 3 ((AK .i64 (x.2.1:Int),true)::(decide ((300:Int)<(x.2.1:Int)),b)::r)
def mT:du:=[(true,true),(false,false)]
theorem AnV:AU dr Kt f8 300 1 [] (Ak f8 [AQ 0 0 n M] [] 1 dz)=some ([(AK .i64 (n:Int),true),(decide ((3:Int)<n),true)],[],.val false [.b false],[]):=dm
theorem AnW:AU dr Kt f8 300 1 [] (Ku 0 M [] ef)=some ((true,true)::(false,false)::mT,[],.val false [.b true],[]):=dm
theorem AnX:AU dr Kt f8 300 1 [] (Ku 1 M [E5 x] fe)=some ((true,true)::(false,false)::Hj x true [],[],.val false [.b false],[]):=dm
theorem AnY:AU dr Kt f8 300 1 [] (Ku 1 M [E5 x] [false,true,false,false])=some ((true,true)::(false,false)::Hj x false mT,[],.val false [.b true],[]):=dm
theorem AnZ:AU dr Kt f8 300 1 [] (Ku 2 M [E5 x,E5 y] fe)=some ((true,true)::(false,false)::Hj x true [],[],.val false [.b false],[]):=dm
theorem Ana:AU dr Kt f8 300 1 [] (Ku 2 M [E5 x,E5 y] [false,true,false,true,true])=some ((true,true)::(false,false)::Hj x false (Hj y true []),[],.val false [.b false],[]):=dm
theorem Anb:AU dr Kt f8 300 1 [] (Ku 2 M [E5 x,E5 y] [false,true,false,true,false,false])=some ((true,true)::(false,false)::Hj x false (Hj y false mT),[],.val false [.b true],[]):=dm
theorem Anc:AU dr Kt f8 300 1 [] (Ku 3 M [E5 x,E5 y,E5 z] fe)=some ((true,true)::(false,false)::Hj x true [],[],.val false [.b false],[]):=dm
theorem Ane:AU dr Kt f8 300 1 [] (Ku 3 M [E5 x,E5 y,E5 z] [false,true,false,true,true])=some ((true,true)::(false,false)::Hj x false (Hj y true []),[],.val false [.b false],[]):=dm
theorem Anf:AU dr Kt f8 300 1 [] (Ku 3 M [E5 x,E5 y,E5 z] [false,true,false,true,false,true,true])=some ((true,true)::(false,false)::Hj x false (Hj y false (Hj z true [])),[],.val false [.b false],[]):=dm
theorem Ang:AU dr Kt f8 300 1 [] (Ku 3 M [E5 x,E5 y,E5 z] [false,true,false,true,false,true,false,false])=some ((true,true)::(false,false)::Hj x false (Hj y false (Hj z false mT)),[],.val false [.b true],[]):=dm
end
theorem Tq {β:Env} {b:Bool} {u:gq} (h:AO β (.val false [.b b]) u):AO β (Aw b) u:=by
 obtain ⟨l1,l2,h1,h3,h4⟩:=h;exact ⟨l1,l2,⟨h1,rfl,trivial⟩,h3,h4⟩
theorem NQ {n M:Nat} {cs:List Ch} {p:List Bool} {c:du} {b:Bool} (h:AU dr Kt f8 300 1 [] (Ku n M cs p)=some (c,[],.val false [.b b],[])) (hc:AM c) (hw:RD f8.ntmps (Ku n M cs p).s=true) :
  Ab dr 8 [AQ 0 0 n M] [(0,some (An cs))] 1 [] (Aw b) [] :=
 BN (Bf (S:=[]) trivial BR func8 dm dm h hw hc) fun _ _ q=>Tq q
theorem Wh {n:Nat} (h:¬ n≤300):decide ((300:Int)<(n:Int))=true:=jm dn
theorem NR {n:Nat} (h:n≤300):decide ((300:Int)<(n:Int))=false:=jq dn
theorem Wi {n:Nat} {r:List Nat} (h:¬ n≤300):Jn (n::r)=false:=by
 have:Nat.ble n 300=false:=by cases e:Nat.ble n 300 with | false=>rfl | true=>exact absurd (jp e) h
 show (Nat.ble n 300&&_)=false;rw [this];rfl
theorem Wj {n:Nat} {r:List Nat} (h:n≤300):Jn (n::r)=Jn r:=by
 show (Nat.ble n 300&&_)=_;rw [jr h];rfl
theorem Anh (M:Nat):∀ {xs:List (Option Addr×Nat×Nat)},xs.length≤3→Wg (Zq xs)=true→Ab dr 8 [AQ 0 0 xs.length M] [(0,some (An (xs.map E5)))] 1 [] (Aw (Jn (Zq xs))) []
 | [],_,_=>NQ (AnW M) ⟨rfl,rfl,rfl,rfl,trivial⟩ dm
 | [x],_,h=>by
  obtain ⟨h0,_⟩:=jy.1 h;show Ab _ _ _ _ _ _ (Aw (Jn [x.2.1])) _;by_cases d0:x.2.1≤300
  ·rw [Wj d0];exact NQ (AnY M x) ⟨rfl,rfl,AY 3 ⟨h0,NR d0,rfl,rfl,trivial⟩⟩ dm
  ·rw [Wi d0];exact NQ (AnX M x) ⟨rfl,rfl,AY 3 ⟨h0,Wh d0,trivial⟩⟩ dm
 | [x,y],_,h=>by
  obtain ⟨h0,h⟩:=jy.1 h;obtain ⟨h1,_⟩:=jy.1 h;show Ab _ _ _ _ _ _ (Aw (Jn [x.2.1,y.2.1])) _;by_cases d0:x.2.1≤300
  ·rw [Wj d0];by_cases d1:y.2.1≤300
   ·rw [Wj d1];exact NQ (Anb M x y) ⟨rfl,rfl,AY 3 ⟨h0,NR d0,AY 3 ⟨h1,NR d1,rfl,rfl,trivial⟩⟩⟩ dm
   ·rw [Wi d1];exact NQ (Ana M x y) ⟨rfl,rfl,AY 3 ⟨h0,NR d0,AY 3 ⟨h1,Wh d1,trivial⟩⟩⟩ dm
  ·rw [Wi d0];exact NQ (AnZ M x y) ⟨rfl,rfl,AY 3 ⟨h0,Wh d0,trivial⟩⟩ dm
 | [x,y,z],_,h=>by
  obtain ⟨h0,h⟩:=jy.1 h;obtain ⟨h1,h⟩:=jy.1 h;obtain ⟨h2,_⟩:=jy.1 h;show Ab _ _ _ _ _ _ (Aw (Jn [x.2.1,y.2.1,z.2.1])) _;by_cases d0:x.2.1≤300
  ·rw [Wj d0];by_cases d1:y.2.1≤300
   ·rw [Wj d1];by_cases d2:z.2.1≤300
    ·rw [Wj d2];exact NQ (Ang M x y z) ⟨rfl,rfl,AY 3 ⟨h0,NR d0,AY 3 ⟨h1,NR d1,AY 3 ⟨h2,NR d2,rfl,rfl,trivial⟩⟩⟩⟩ dm
    ·rw [Wi d2];exact NQ (Anf M x y z) ⟨rfl,rfl,AY 3 ⟨h0,NR d0,AY 3 ⟨h1,NR d1,AY 3 ⟨h2,Wh d2,trivial⟩⟩⟩⟩ dm
   ·rw [Wi d1];exact NQ (Ane M x y z) ⟨rfl,rfl,AY 3 ⟨h0,NR d0,AY 3 ⟨h1,Wh d1,trivial⟩⟩⟩ dm
  ·rw [Wi d0];exact NQ (Anc M x y z) ⟨rfl,rfl,AY 3 ⟨h0,Wh d0,trivial⟩⟩ dm
 | _::_::_::_::_,hl,_=>absurd hl (by simp)
theorem Ani {n M:Nat} (h:AK .i64 (n:Int)=true) (d:decide ((3:Int)<n)=true):Ab dr 8 [AQ 0 0 n M] [] 1 [] (.val false [.b false]) [] :=
 Bf (S:=[]) trivial BR func8 dm dm (AnV n M) dm ⟨h,d,trivial⟩
theorem Anj (xs:List (Option Addr×Nat×Nat)):(Zq xs).length=xs.length:=by unfold Zq;rw [ma]
theorem Ank:BI dr 8 fewSp:=by
 refine DN func8 dm dm fun args H fr ie r hs=>?_
 unfold fewSp at hs;split at hs;case h_3=>cases hs
 ·rename_i A ij;split at hs;case h_2=>cases hs
  rename_i K n hS;injection hs with hs;refine ⟨[K],1,0,[],_,_,_,_,hs.symm,fun β us w ha hg hc=>?_⟩
  obtain ⟨u1,jf,r1,ha,rfl⟩:=ha;obtain ⟨M,r1⟩:=E8 hS r1;refine ⟨_,[],Ani hc.1 hc.2.1,dm,⟨u1,_,CV dn rfl r1,ha,rfl⟩,⟨fun _ _ h=>by (cases h),fun _ _ _ _ _ h=>by (cases h),fun j B n hj=>?_⟩,fun j hj=>?_⟩
  ·unfold A9 at hj;split at hj
   ·exact hg.lt _ _ _ hj
   ·cases hj
  ·obtain ⟨l1,l2,h1,_⟩:=r1;match j,hj with
   | 0,_=>rcases h1 with ⟨_,_,q,_⟩ | ⟨q,_⟩ | ⟨q,_⟩<;>exact ⟨_,q⟩
 ·rename_i A ij;split at hs;case h_2=>cases hs
  rename_i K n hS;split at hs;case h_2=>cases hs
  rename_i ty cs o hk;split at hs;case h_2=>cases hs
  rename_i ns hns;injection hs with hs;refine ⟨[K],1,0,[],_,_,_,_,hs.symm,fun β us w ha hg hc=>?_⟩
  obtain ⟨u1,jf,r1,ha,rfl⟩:=ha;obtain ⟨M,r1⟩:=E8 hS r1;obtain ⟨c1,c2,_⟩:=hc;obtain ⟨c1,c3⟩:=jy.1 c1;obtain ⟨l,q1,q2⟩:=AM7 (hg.heap _ _ hk) (ANB hns)
  obtain ⟨xs,rfl,q3⟩:=ANA hns q1;have hn:n=xs.length:=(Ar.1 c1).trans (Anj xs)
  subst hn;refine ⟨_,_,Anh M (jp c3) c2,dm,⟨u1,_,CV dn rfl r1,ha,rfl⟩,NJ (bs:=[An (xs.map E5)]) hg fun j d hj=>?_,fun j hj=>?_⟩
  ·match j,hj with
   | 0,hj=>injection hj with hj;subst hj;exact ⟨rfl,q2 _ _ 0 (E6 (by show 0<1;decide)) (q3 _)⟩
  ·match j,hj with
   | 0,_=>exact CM (hg.heap _ _ hk)
def mU (k0:Nat):Heap→Bool
 | []=>true
 | (k,_)::r=>match Nat.ble k0 k with | true=>mU k0 r | false=>false
def Qv (s:ASpec) (args:List AV) (H:Heap) (k0:Nat) (ie:List Bool):Option (du×AV):=match s args H k0 ie with
 | some r=>match mU k0 r.upd,r.ie with
  | true,[]=>some (r.conds,r.val)
  | _,_=>none
 | none=>none
theorem ANC {k0:Nat}:∀ {H:Heap} {k:Nat} {y:Option ib},mU k0 H=true→(k,y)∈H→k0≤k
 | [],_,_,_,h=>by cases h
 | (j,z)::r,k,y,h,hm=>by
  simp only [mU] at h;split at h
  ·rename_i hj;rcases ka.1 hm with e | hm
   ·injection e with e1 e2;subst e1;exact jp hj
   ·exact ANC h hm
  ·cases h
theorem AB6 {P:gr} {f:gp} {fn:Func} {s:ASpec} (hs:BI P f s) (jc:P.funcs[f]? = some fn) (hb:fn.body.isSome=true) (iq:fw fn) {args:List AV} {H:Heap} {k0:Nat} {ie:List Bool} {c:du} {v:AV}
  (h:Qv s args H k0 ie=some (c,v)) (hc:AM c):Ab P f args H k0 [] v []:=by
 intro β us w ha hg hf;unfold Qv at h;split at h;case h_2=>cases h
 rename_i r hr;split at h;case h_2=>cases h
 rename_i hu hp;injection h with h;injection h with e1 e2;subst e1;subst e2;have key:=hs args H k0 ie r β us w hr hc ha hg fun b h1 _=>hf b h1
 unfold NW at key;have h1:fn.name≠"runtime.NumGoroutine":=by simpa using iq
 have h2:¬ fn.body=none:=by cases hq:fn.body<;>simp [hq] at hb ⊢
 have e:(callFunc f ⟨us⟩).run P w=.ok (.enter f ⟨us⟩) w:=by simp [callFunc,jc,h1,h2]
 rw [e] at key;refine Calls.mono key ?_
 rintro e w' ⟨u,β',rfl,he⟩
 have no:∀ k y m B,(k,y)∈r.upd→β k≠some (.at_ B m):=fun k y m B hk hk2=>by
  rw [hf k (ANC hu hk)] at hk2;cases hk2
 refine ⟨u,β',rfl,he.val,⟨fun _ _ h=>by (cases h),fun _ _ _ _ _ h=>by (cases h),he.lt⟩,fun b X hb=>(he.new b X hb).imp id fun ⟨_,_,h3⟩ B m e=>(h3 B m e).imp id fun ⟨k,m',q1,q2⟩=>?_,he.ext,fun B hB _=>he.frame B hB fun k y n hk=>no k y n B hk,he.size,he.os,he.tape,he.output⟩
 exact absurd q2 (no k _ m' B q1)
def mV (r s:R gx):Bool:=dq r.1.1.1 s.1.1.1&&(dq r.1.1.2 s.1.1.2&&(dq r.1.2.1.1 s.1.2.1.1&&(dq r.1.2.1.2 s.1.2.1.2&&(dq r.1.2.2.1 s.1.2.2.1&&(dq r.1.2.2.2 s.1.2.2.2&&(dq r.2.1.1 s.2.1.1&&(dq r.2.1.2 s.2.1.2&&(dq r.2.2.1.1 s.2.2.1.1&&(dq r.2.2.1.2 s.2.2.1.2&&(dq r.2.2.2.1 s.2.2.2.1&&dq r.2.2.2.2 s.2.2.2.2))))))))))
def F7 (p:Pt FP):Pt FP:=AL (A8 p) (Av p) (Ao p)
noncomputable def DZ (x:dt):Pt FP:=(EQ true x).1
noncomputable def Ay (x:dt):Bool:=decide ((EQ true x).2=0)
noncomputable def Hk (x:dt):P2:=(G6 true x).1
noncomputable def DP (x:dt):Bool:=decide ((G6 true x).2=0)
noncomputable def HE (s:ByteArray) (x:dt):P2:=Td x (AA (MQ s) 0 s.size)
abbrev Cnd:=du
def B4 (q:Rw) (r:Cnd):Cnd:=(Nat.ble q.2.1 q.2.2.2.length,true)::(Nat.ble q.2.1 q.2.2.1,true)::(AK .i64 (q.2.1:Int),true)::r
def FW (r:Cnd):Cnd:=(true,true)::(false,false)::r
def MD (q:Rw):Bool×Bool:=(Nat.ble (0+q.2.1) q.2.2.2.length,true)
def hhD (s:ByteArray) (q:Rw) (r:Cnd):Cnd:=MD q::(Nat.ble s.size (MQ s).length,true)::(Nat.ble q.2.1 4398046511104,true)::(Nat.ble 1 s.size,true)::(Nat.ble s.size 255,true)::(Nat.ble s.size s.size,true)::r
noncomputable def Tr (p:Pt FP) (h:P2) (r:Cnd):Cnd:=(!A2 (F7 p),false)::(true,true)::(!CW (mo (en h)),false)::r
def bt:Nat→Nat→List Bool
 | 0,_=>[]
 | k+1,n=>Nat.beq (n % 2) 1::bt k (n / 2)
noncomputable def Wk (p:Pt FP) (q:P2):R gx:=en (lpO (mo ((A8 p,Av p,Ao p):R (Pt FP))) (mo (en q)))
noncomputable def Zr (r:R gx):R gx:=en (fiO (mo r))
noncomputable def mX (a:R gx):List (Pt FP×P2)→R gx
 | []=>a
 | (p,h)::r=>mX (mu gx (mu gx o12 a) (Wk p h)) r
noncomputable def mY (a:R gx):List (Pt FP×P2)→R gx
 | []=>a
 | (p,h)::r=>mY (mu gx a (Zr (Wk p h))) r
noncomputable def mZ (l:List (Pt FP×P2)) (s:P2):R gx:=Zr (mu gx (mu gx o12 (mX o12 l)) (Wk (Rg.neg (F7 G1B)) s))
noncomputable def Zs (l:List (Pt FP×P2)) (s:P2):Bool:=mV (mZ l s) (en (Zm (mo (mZ l s)) (AI [])))
noncomputable def vqW (l:List (Pt FP×P2)) (s:P2):Bool:=mV (mY o12 l) (Zr (Wk G1B s))
def Zt (k:Nat) (sg:Rw) (M M1:Nat) (s:ByteArray):List AV:=[AQ 0 0 k M,AQ 1 0 k M1,AQ 2 0 sg.2.1 sg.2.2.1,.val false [.v (.string s)]]
def Zu (rs1 rs2:List Rw) (sg:Rw):Heap:=LG 0 ([An (ET 3 rs1),An (ET (3+EF rs1) rs2)]++D1 (sg::(rs1++rs2)))
noncomputable def reC (s:ByteArray) (q h:Rw) (r:Cnd):Cnd:=tt 3 (B4 q ((Ay (AS q),true)::(!!Ao (DZ (AS q)),false)::(true,true)::B4 q ((true,true)::hhD s h ((!A2 (F7 (DZ (AS q))),false)::(!CW (mo (en (HE s (AS h)))),false)::r))))
noncomputable def Wl (k:Nat) (rs1:List Rw) (sg:Rw) (rs2:List Rw) (M M1:Nat) (s:ByteArray) (p:List Bool):=Qv (BF dr oEb1 f27 900) (Zt k sg M M1 s) (Zu rs1 rs2 sg) (3+2*k) p
theorem ANF (a b:gx):mV (en a) (en b)=decide (a=b):=by
 have h:mV (en a) (en b)=(dq a.a.a.a.val b.a.a.a.val&&(dq a.a.a.b.val b.a.a.b.val&&(dq a.a.b.a.val b.a.b.a.val&&(dq a.a.b.b.val b.a.b.b.val&&(dq a.a.c.a.val b.a.c.a.val&&(dq a.a.c.b.val b.a.c.b.val&&(dq a.b.a.a.val b.b.a.a.val&&(dq a.b.a.b.val b.b.a.b.val&&(dq a.b.b.a.val b.b.b.a.val&&(dq a.b.b.b.val b.b.b.b.val&&(dq a.b.c.a.val b.b.c.a.val&&dq a.b.c.b.val b.b.c.b.val))))))))))):=rfl
 rw [h];simp only [M2];by_cases e:a=b
 ·subst e;simp
 ·rw [jq e];refine Bool.eq_false_iff.2 fun q=>?_
  simp only [jx,jt] at q;obtain ⟨e1,e2,e3,e4,e5,e6,e7,e8,e9,e10,e11,e12⟩:=q;exact e (Qx.ext (Kx.ext (Qx.ext e1 e2) (Qx.ext e3 e4) (Qx.ext e5 e6)) (Kx.ext (Qx.ext e7 e8) (Qx.ext e9 e10) (Qx.ext e11 e12)))
theorem ANG (p:Pt FP):(mo ((A8 p,Av p,Ao p):R (Pt FP)):Pt FP)=p:=by
 cases p with
 | inf=>rfl
 | pt a b =>
  show wD (tf a.val) (tf b.val) false=.pt a b;rw [Bn,Bn];rfl
theorem O9 (p:Pt FP):F7 p=p:=by
 cases p with
 | inf=>rfl
 | pt a b =>
  show Pt.pt (tf a.val) (tf b.val)=.pt a b;rw [Bn,Bn]
theorem m6 (p:Pt FP) (q:P2):Wk p q=en (DA p q):=by
 unfold Wk;rw [ANG,mo_en,AMP]
theorem AB8 (x:gx):Zr (en x)=en (finF x):=by
 unfold Zr;rw [mo_en,ABv]
noncomputable def Ts (a:gx):List (Pt FP×P2)→gx
 | []=>a
 | (p,h)::r=>Ts (a*DA p h) r
noncomputable def HF (a:gx):List (Pt FP×P2)→gx
 | []=>a
 | (p,h)::r=>HF (a*finF (DA p h)) r
theorem ANH:∀ (l:List (Pt FP×P2)) (a:gx),mX (en a) l=en (Ts a l)
 | [],_=>rfl
 | (p,h)::r,a=>by
  unfold mX Ts;rw [m6];have e:mu gx (mu gx o12 (en a)) (en (DA p h))=en (a*DA p h):=by
   rw [Tj];unfold mu;simp only [mo_en,Rg.one_mul]
  rw [e];exact ANH r _
theorem ANI:∀ (l:List (Pt FP×P2)) (a:gx),mY (en a) l=en (HF a l)
 | [],_=>rfl
 | (p,h)::r,a=>by
  unfold mY HF;rw [m6,AB8];have e:mu gx (en a) (en (finF (DA p h)))=en (a*finF (DA p h)):=by unfold mu;simp only [mo_en]
  rw [e];exact ANI r _
theorem ANJ:∀ (l:List (Pt FP×P2)) (a:gx),finF (Ts a l)=HF (finF a) l
 | [],_=>rfl
 | (p,h)::r,a=>by
  unfold Ts HF;rw [ANJ r,finF_mh.mul]
theorem Anl (l:List (Pt FP×P2)) (s:P2):mZ l s=en (HF 1 l*finF (DA (Rg.neg G1B) s)):=by
 unfold mZ;rw [O9,Tj,ANH,m6];have e:mu gx (mu gx (en (1:gx)) (en (Ts 1 l))) (en (DA (Rg.neg G1B) s))=en (Ts 1 l*DA (Rg.neg G1B) s):=by unfold mu;simp only [mo_en,Rg.one_mul]
 rw [e,AB8,finF_mh.mul,ANJ,finF_mh.one]
theorem ANK {n:Nat} (h:Nat.beq (tf n).val 0=false):(tf n:FP)≠0:=fun e=>by
 have e1:(tf n).val=0:=jw Fin.val e
 rw [e1] at h;cases h
theorem Anm:(tf gX:FP)≠0:=ANK dm
theorem Ann:(tf gY:FP)≠0:=ANK dm
theorem Ano (l:List (Pt FP×P2)) (s:P2):vqW l s=decide (HF 1 l=finF (DA G1B s)):=by
 unfold vqW;rw [Tj,ANI,m6,AB8,ANF]
theorem Anp:BH G1B=true:=(jy.1 Yk).1
theorem Anq {s:P2} (h:CW s=true):Hh G1B s=true:=by
 unfold Hh;rw [Anp,(jy.1 h).1];rfl
theorem AB9 (l:List (Pt FP×P2)) {s:P2} (h:CW s=true):Zs l s=decide (HF 1 l=finF (DA G1B s)):=by
 unfold Zs;rw [Anl,mo_en,Zn,ANF];have e:∀ x:gx,pw x (AI [])=1:=fun _=>rfl
 rw [e];have hG:G1B=.pt (tf gX) (tf gY):=rfl
 have hB:=Anq h;rw [hG] at hB ⊢;have:=AnS Anm Ann hB (HF 1 l)
 by_cases q:HF 1 l=finF (DA (.pt (tf gX) (tf gY)) s)
 ·rw [jm q,jm (this.2 q)]
 ·rw [jq q,jq fun h=>q (this.1 h)]
noncomputable def O_:List (dt)→Bool
 | []=>true
 | x::r=>(Ay x&&!Ao (DZ x))&&O_ r
noncomputable def Wm (t:ByteArray):List (dt)→List (dt)→List (Pt FP×P2)
 | x::r,y::q=>(DZ x,HE t y)::Wm t r q
 | _,_=>[]
noncomputable def m7 (L1 L2:List (dt)) (s:dt) (t:ByteArray):Bool:=match L1 with
 | []=>false
 | _=>decide (L1.length=L2.length)&&(DP s&&(O_ L1&&decide (HF 1 (Wm t L1 L2)=finF (DA G1B (Hk s)))))
theorem ANL:∃ f:List (dt)→List (dt)→dt→ByteArray→Bool,∀ a b s t,f a b s t=m7 a b s t:=⟨_,fun _ _ _ _=>rfl⟩
noncomputable def ME:List (dt)→List (dt)→dt→ByteArray→Bool:=Classical.choose ANL
theorem ANM (a b:List (dt)) (s:dt) (t:ByteArray):ME a b s t=m7 a b s t:=lf ANL a b s t
section
variable (M M1:Nat) (g:Rw) (s:ByteArray) (r0 q0:Rw)
theorem Anr:Wl 1 [r0] g [q0] M M1 s (bt 3 4)=some (FW (tt 2 ((false,false)::B4 g ((!DP (AS g),true)::[]))),.val false [.b false]):=dm
theorem Ans:Wl 1 [r0] g [q0] M M1 s (bt 5 8)=some (FW (tt 2 ((false,false)::B4 g ((!DP (AS g),false)::tt 3 (B4 r0 ((Ay (AS r0),false)::[]))))),.val false [.b false]):=dm
theorem Ant:Wl 1 [r0] g [q0] M M1 s (bt 6 56)=some (FW (tt 2 ((false,false)::B4 g ((!DP (AS g),false)::tt 3 (B4 r0 ((Ay (AS r0),true)::(!!Ao (DZ (AS r0)),true)::[]))))),.val false [.b false]):=dm
theorem Anu:Wl 1 [r0] g [q0] M M1 s (bt 11 24)=some (FW (tt 2 ((false,false)::B4 g ((!DP (AS g),false)::reC s r0 q0 ((((FW ((!A2 (F7 G1B),false)::(!CW (mo (en (Hk (AS g)))),false)::[])))))))),Aw (vqW [(DZ (AS r0),HE s (AS q0))] (Hk (AS g)))):=dm
end
section
variable {r:Cnd} {q h g:Rw} {s:ByteArray} {p:Pt FP} {t:P2}
theorem CO (hb:BO q=true) (hr:AM r):AM (B4 q r):=by
 obtain ⟨b1,b2,b3,b4⟩:=Zp hb;exact ⟨jr b1,jr b2,b3,hr⟩
theorem F8 (hr:AM r):AM (FW r):=⟨rfl,rfl,hr⟩
theorem O' (hb:BO q=true) (hr:AM r):AM (MD q::r):=by
 obtain ⟨b1,_⟩:=Zp hb;exact ⟨jr dn,hr⟩
theorem Anv (hb:BO q=true) (ht:JX s=true) (hr:AM r):AM (hhD s q r):=by
 obtain ⟨b1,b2,b3,b4⟩:=Zp hb;obtain ⟨t1,t2,t3⟩:=AkO ht;exact ⟨jr dn,jr dn,jr b4,jr t1,jr t2,jr (ju _),hr⟩
theorem Wn (h1:A2 p=true) (h2:CW t=true) (hr:AM r):AM (Tr p t r):=by
 refine ⟨?_,rfl,?_,hr⟩
 ·show (!A2 (F7 p))=false;rw [O9,h1];rfl
 ·show (!CW (mo (en t)))=false;rw [mo_en,h2];rfl
theorem m8 (s:ByteArray) (x:dt):CW (HE s x)=true:=by
 obtain ⟨h1,h2⟩:=Akt x (AA (MQ s) 0 s.size)
 unfold CW HE;rw [(LU _).2 h1,h2];rfl
theorem AB_:A2 (Rg.neg (F7 G1B))=true:=by rw [O9];exact (Abv _).trans Yk
theorem Anw (hb:BO q=true) (hb':BO h=true) (ht:JX s=true) (h1:Ay (AS q)=true) (h2:(!!Ao (DZ (AS q)))=false) (h3:A2 (DZ (AS q))=true) (hr:AM r):AM (reC s q h r):=by
 refine AY 3 (CO hb ⟨h1,h2,rfl,CO hb ⟨rfl,Anv hb' ht ⟨?_,?_,hr⟩⟩⟩)
 ·show (!A2 (F7 _))=false;rw [O9,h3];rfl
 ·show (!CW (mo (en _)))=false;rw [mo_en,m8];rfl
theorem Anx (h2:CW t=true) (hr:AM r):AM ((!A2 (F7 G1B),false)::(!CW (mo (en t)),false)::r):=by
 refine ⟨?_,?_,hr⟩
 ·show (!A2 (F7 _))=false;rw [O9,Yk];rfl
 ·show (!CW (mo (en t)))=false;rw [mo_en,h2];rfl
end
def C0 (r:Rw):Prop:=∀ d∈AS r,0≤d∧d<256
theorem ANN {r:Rw} (hb:C0 r) (h:Ay (AS r)=true):A2 (DZ (AS r))=true:=(Aa6 hb (kj h)).1
theorem m9 {r:Rw} (hb:C0 r) (h:DP (AS r)=true):CW (Hk (AS r))=true:=(Abq hb (kj h)).1
noncomputable def rvR (args:List AV) (H:Heap) (k0:Nat) (p:List Bool):=Qv (BF dr oEb1 f27 900) args H k0 p
theorem nA {args:List AV} {H:Heap} {k0:Nat} {p:List Bool} {c:Cnd} {v:AV} (h:rvR args H k0 p=some (c,v)) (hc:AM c):Ab dr 27 args H k0 [] v [] :=
 AB6 (BJ AM1 AB func27 dm dm 900) func27 dm dm h hc
section
variable {M M1:Nat} {g:Rw} {s:ByteArray} {p:List Bool} {c:Cnd} {v:AV} {b:Bool}
theorem ACA {k:Nat} {l1 l2:List Rw} (h:Wl k l1 g l2 M M1 s p=some (c,.val false [.b false])) (hc:AM c) (hv:b=false):Ab dr 27 (Zt k g M M1 s) (Zu l1 l2 g) (3+2*k) [] (Aw b) []:=by
 subst hv;exact BN (nA h hc) fun _ _ q=>Tq q
theorem Anz {k:Nat} {l1 l2:List Rw} {b':Bool} (h:Wl k l1 g l2 M M1 s p=some (c,Aw b')) (hc:AM c) (hv:b=b'):Ab dr 27 (Zt k g M M1 s) (Zu l1 l2 g) (3+2*k) [] (Aw b) []:=by
 subst hv;exact nA h hc
end
theorem An0 {x:dt} {l:List (dt)} (h:Ay x=false):O_ (x::l)=false:=by
 show ((Ay x&&_)&&_)=false;rw [h];rfl
theorem An1 {x:dt} {l:List (dt)} (h:Ao (DZ x)=true):O_ (x::l)=false:=by
 show ((Ay x&&!Ao (DZ x))&&_)=false;rw [h];cases Ay x<;>rfl
theorem ANO {x:dt} {l:List (dt)} (h1:Ay x=true) (h2:Ao (DZ x)=false):O_ (x::l)=O_ l:=by
 show ((Ay x&&!Ao (DZ x))&&_)=_;rw [h1,h2];rfl
theorem ANP:O_ []=true:=rfl
theorem ANQ (x:dt) (r L2:List (dt)) (s:dt) (t:ByteArray):m7 (x::r) L2 s t=(decide ((x::r).length=L2.length)&&(DP s&&(O_ (x::r)&&decide (HF 1 (Wm t (x::r) L2)=finF (DA G1B (Hk s)))))):=rfl
theorem An2 (t:ByteArray) (x y:dt) (r q:List (dt)):Wm t (x::r) (y::q)=(DZ x,HE t y)::Wm t r q:=rfl
theorem An3 (t:ByteArray):Wm t [] []=[]:=rfl
theorem ANR (a b:Bool):(a&&(false&&b))=false:=by cases a<;>rfl
theorem An4 (b:Bool):(true&&(true&&b))=b:=rfl
theorem Zv {g:dt} {s:ByteArray} (x0 y0:dt):ME [x0] [y0] g s=(DP g&&(O_ [x0]&&decide (HF 1 [(DZ x0,HE s y0)]=finF (DA G1B (Hk g))))):=by
 have e:decide (([x0]:List (dt)).length=([y0]:List (dt)).length)=true:=jm rfl
 rw [ANM,ANQ,e,lg,An2,An3]
theorem An5 (M M1:Nat) {g:Rw} {s:ByteArray} {r0 q0:Rw} (br0:BO r0=true) (yr0:C0 r0) (bq0:BO q0=true) (_yq0:C0 q0) (bg:BO g=true) (yg:C0 g) (ht:JX s=true):Ab dr 27 (Zt 1 g M M1 s) (Zu [r0] [q0] g) (3+2*1) [] (Aw (ME [AS r0] [AS q0] (AS g) s)) []:=by
 cases m0:DP (AS g) with
 | false =>
  have m1:(!DP (AS g))=true:=by rw [m0];rfl
  exact ACA (Anr ..) (F8 (AY 2 ⟨rfl,(CO bg ⟨m1,trivial⟩)⟩)) (by rw [Zv,m0];rfl)
 | true =>
  have m1:(!DP (AS g))=false:=by rw [m0];rfl
  have m2:=m9 yg m0;cases k0:Ay (AS r0) with
  | false =>
   have n0:(!Ay (AS r0))=true:=by rw [k0];rfl
   exact ACA (Ans ..) (F8 (AY 2 ⟨rfl,(CO bg ⟨m1,(AY 3 (CO br0 ⟨k0,trivial⟩))⟩)⟩)) (by rw [Zv,An0 k0];exact ANR _ _)
  | true =>
   have n0:(!Ay (AS r0))=false:=by rw [k0];rfl
   cases i0:Ao (DZ (AS r0)) with
   | true =>
    have j0:(!!Ao (DZ (AS r0)))=true:=by rw [i0];rfl
    exact ACA (Ant ..) (F8 (AY 2 ⟨rfl,(CO bg ⟨m1,(AY 3 (CO br0 ⟨k0,⟨j0,trivial⟩⟩))⟩)⟩)) (by rw [Zv,An1 i0];exact ANR _ _)
   | false =>
    have j0:(!!Ao (DZ (AS r0)))=false:=by rw [i0];rfl
    exact Anz (Anu ..) (F8 (AY 2 ⟨rfl,(CO bg ⟨m1,(Anw br0 bq0 ht k0 j0 (ANN yr0 k0) (F8 (Anx m2 trivial)))⟩)⟩)) (by rw [Ano,Zv,m0,ANO k0 i0,ANP];exact An4 _)
theorem ACB {β:Env} {H:Heap} {w:gn} {c:Ch} {r:Rw} (hg:Ex.Good β H w) (h:rowAt H c=some r):C0 r:=by
 unfold rowAt at h;split at h;case h_2=>cases h
 rename_i k n m hS;split at h;case h_2=>cases h
 rename_i ty cs o hk;split at h;case h_2=>cases h
 rename_i xs hx;injection h with h;subst h;obtain ⟨g1,_,_⟩:=EP hg hk hx;exact DG g1
def ACC (L:List (dt)):Prop:=∀ x∈L,∀ d∈x,0≤d∧d<256
theorem ANS {β:Env} {H:Heap} {w:gn} (hg:Ex.Good β H w):∀ {cs:List Ch} {rs:List Rw},Qs H cs=some rs→ACC (DT rs)
 | [],rs,h=>by injection h with h;subst h;intro x hx;cases hx
 | c::cs,rs,h=>by
  simp only [Qs] at h;split at h;case h_2=>cases h
  rename_i x rl hx hrl;injection h with h;subst h;intro y hy;rcases ka.1 hy with rfl | hy
  ·exact ACB hg hx
  ·exact ANS hg hrl y hy
theorem ACD {β:Env} {H:Heap} {w:gn} {A:AV} {K n:Nat} {rs:List Rw} (hg:Ex.Good β H w) (h:O8 H A=some (K,n,rs)):ACC (DT rs):=by
 unfold O8 at h;split at h;case h_2=>cases h
 split at h;case h_2=>cases h
 split at h;case h_2=>cases h
 rename_i rl hrl;injection h with h;injection h with e1 h;injection h with e2 e3;subst e3;exact ANS hg hrl
theorem ACE {rs:List Rw} (h:ACC (DT rs)):∀ r∈rs,C0 r:=by
 induction rs with
 | nil=>intro r hr;cases hr
 | cons x l ih =>
  intro r hr;rcases ka.1 hr with rfl | hr
  ·exact h _ (qr ..)
  ·exact ih (fun y hy=>h y (oq _ hy)) r hr
def ANT (F:gp):Prop:=∀ (M M1:Nat) (g:Rw) (s:ByteArray) (l1 l2:List Rw),1≤l1.length→l1.length≤1→l2.length=l1.length→E4 l1=true→E4 l2=true→BO g=true→(∀ r∈l1,C0 r)→(∀ r∈l2,C0 r)→C0 g→JX s=true →
 Ab dr F (Zt l1.length g M M1 s) (Zu l1 l2 g) (3+2*l1.length) [] (Aw (ME (DT l1) (DT l2) (AS g) s)) []
theorem An6:ANT 27
 | M,M1,g,s,[r0],[q0],_,_,_,b1,b2,bg,y1,y2,yg,ht=>An5 M M1 (IJ b1 (by simp)) (y1 _ (by simp)) (IJ b2 (by simp)) (y2 _ (by simp)) bg yg ht
section
variable (n M n' M1 g gm:Nat) (s:ByteArray)
def noA:List AV:=[AQ 0 0 n M,AQ 1 0 n' M1,AQ 2 0 g gm,.val false [.v (.string s)]]
def noC:Cnd:=[(AK .i64 (n:Int),true),(decide ((n:Int)=0),false),(AK .i64 (n:Int),true),(AK .i64 (n':Int),true),(!decide ((n:Int)=(n':Int)),true)]
theorem An8:rvR (noA n M n' M1 g gm s) [] 3 dz=some ([(AK .i64 (n:Int),true),(decide ((n:Int)=0),true)],.val false [.b false]):=dm
theorem An9:rvR (noA n M n' M1 g gm s) [] 3 ee=some (noC n n',.val false [.b false]):=dm
end
def ANU (F:gp):Prop:=∀ (n M n' M1 g gm:Nat) (s:ByteArray),AK .i64 (n:Int)=true→AK .i64 (n':Int)=true→(n=0∨n≠n')→Ab dr F (noA n M n' M1 g gm s) [] 3 [] (Aw false) []
theorem An_:ANU 27:=fun n M n' M1 g gm s h h' hn=>by
 by_cases h0:n=0
 ·exact BN (nA (An8 n M n' M1 g gm s) ⟨h,jm dn,trivial⟩) fun _ _ q=>Tq q
 ·exact BN (nA (An9 n M n' M1 g gm s) ⟨h,jq dn,h,h',by rw [jq dn];rfl,trivial⟩) fun _ _ q=>Tq q
theorem ACG:∀ l:List Rw,(DT l).length=l.length
 | []=>rfl
 | _::l=>by rw [DT,k_,ACG l,k_]
theorem An' {l1 l2:List Rw} {g:dt} {s:ByteArray} (h:l1.length=0∨l1.length≠l2.length):ME (DT l1) (DT l2) g s=false:=by
 rw [ANM];cases l1 with
 | nil=>rfl
 | cons x l =>
  have e:decide ((AS x::DT l).length=(DT l2).length)=false:=jq fun e=>by
   rw [k_,ACG,ACG] at e;rcases h with h | h
   ·simp at h
   ·exact h (by rw [k_];exact e)
  show m7 (AS x::DT l) _ _ _=false;rw [ANQ,e,oy]
noncomputable def alSp:ASpec:=fun args H fr ie=>match args with
 | [P,Q,.val false [c],.val false [.v (.string t)]]=>match O8 H P,O8 H Q,rowAt H c with
  | some (K1,n1,l1),some (K2,n2,l2),some g=>match Nat.beq n1 (EF l1)&&Nat.beq n2 (EF l2),Nat.beq n1 n2&&(Nat.ble 1 n1&&Nat.ble n1 1) with
   | true,true=>some (BP ([K1,K2]++CN (g::(l1++l2))) (3+2*n1) fr 0 [] (Aw (ME (DT l1) (DT l2) (AS g) t)) [] [(E4 (g::(l1++l2))&&JX t,true)] ie)
   | true,false=>some (BP [K1,K2,g.1] 3 fr 0 [] (Aw (ME (DT l1) (DT l2) (AS g) t)) [] [(AK .i64 (n1:Int)&&(AK .i64 (n2:Int)&&(Nat.beq n1 0||!Nat.beq n1 n2)),true),(BO g,true)] ie)
   | _,_=>none
  | _,_,_=>none
 | _=>none
theorem ANV:∀ {a b:List Rw},E4 (a++b)=true→E4 a=true∧E4 b=true
 | [],_,h=>⟨rfl,h⟩
 | x::a,b,h=>by
  obtain ⟨h1,h2⟩:=jy.1 h;obtain ⟨h3,h4⟩:=ANV h2;exact ⟨jy.2 ⟨h1,h3⟩,h4⟩
theorem ACH:∀ a b:List Rw,CN (a++b)=CN a++CN b
 | [],_=>rfl
 | x::a,b=>by rw [n_,CN,ACH a b];rfl
theorem AoA {F:gp} {fn:Func} (jc:dr.funcs[F]? = some fn) (hb:fn.body.isSome=true) (iq:fw fn) (h1:ANT F) (h2:ANU F):BI dr F alSp:=by
 refine DN jc hb iq fun args H fr ie r hs=>?_
 unfold alSp at hs;split at hs;case h_2=>cases hs
 rename_i P Q c t;split at hs;case h_2=>cases hs
 rename_i K1 n1 l1 K2 n2 l2 g hP hQ hG;split at hs;case h_3=>cases hs
 ·rename_i hn hk;injection hs with hs;refine ⟨[K1,K2]++CN (g::(l1++l2)),3+2*n1,0,[],_,_,_,_,hs.symm,fun β us w ha hg hc=>?_⟩
  obtain ⟨u1,jf,a1,⟨u2,jg,a2,⟨u3,us3,a3,⟨u4,us4,a4,ha,rfl⟩,rfl⟩,rfl⟩,rfl⟩:=ha;obtain ⟨c1,ct⟩:=jy.1 hc.1;obtain ⟨cg,c1⟩:=jy.1 c1;obtain ⟨cb1,cb2⟩:=ANV c1;obtain ⟨e1,e2⟩:=jy.1 hn;obtain ⟨e3,e4⟩:=jy.1 hk;obtain ⟨e4,e5⟩:=jy.1 e4;have e1:=Ar.1 e1;have e2:=Ar.1 e2;have e3:=Ar.1 e3;have e4:=jp e4;have e5:=jp e5;rw [Qt] at e1 e2;obtain ⟨M,r1,q1,q2,q3,q4,q5,q6,q7⟩:=AB4 hg hP cb1 a1;obtain ⟨M1,r2,p1,p2,p3,p4,p5,p6,p7⟩:=AB4 hg hQ cb2 a2;obtain ⟨m,g1,g2,g3⟩:=WZ hg hG cg (A5 a3)
  have L1:=AB5 q2;have L2:=AB5 p2;have hl1:r1.length=n1:=by rw [L1,e1]
  have hl2:r2.length=n1:=by rw [L2,← e2,e3]
  subst hl1;obtain ⟨gg,hgg⟩:∃ gg:Rw,gg=(g.1,g.2.1,m,g.2.2.2):=⟨_,rfl⟩
  have hw:AS gg=AS g:=by rw [hgg];rfl
  have hk1:gg.1=g.1:=by rw [hgg]
  rw [← hgg] at g1 g3;have hK:CN (g::(l1++l2))=CN (gg::(r1++r2)):=by rw [CN,CN,ACH,ACH,q3,p3,hk1]
  have hfs:∀ r∈gg::(r1++r2),Tp β w r:=fun r hr=>by
   rcases ka.1 hr with rfl | hr
   ·exact g3
   ·rcases j_.1 hr with hr | hr
    ·exact q4 r hr
    ·exact p4 r hr
  have ii:([An (ET 3 r1),An (ET (3+EF r1) r2)]++D1 (gg::(r1++r2))).length=3+2*r1.length:=by
   rw [ku,We];simp only [k_,ku,tj,hl2];omega
  have env:∀ i r,(gg::(r1++r2))[i]? = some r→A9 β ([K1,K2]++CN (gg::(r1++r2))) (3+2*r1.length) (2+i)=β r.1:=fun i r hi=>by
   have:=AB3 (β:=β) (hs:=[K1,K2]) (hb:=[An (ET 3 r1),An (ET (3+EF r1) r2)]) rfl hi
   rwa [ii] at this
  have ev1:∀ i r,r1[i]? = some r→A9 β ([K1,K2]++CN (gg::(r1++r2))) (3+2*r1.length) (3+i)=β r.1:=fun i r hi=>by
   have jb:i<r1.length:=by
    rcases kf i r1.length with q | q
    ·exact q
    ·rw [mq q] at hi;cases hi
   have:=env (i+1) r (by rw [List.getElem?_cons_succ,om jb];exact hi)
   rwa [show 2+(i+1)=3+i by omega] at this
  have KD:∀ i r,r2[i]? = some r→A9 β ([K1,K2]++CN (gg::(r1++r2))) (3+2*r1.length) (3+EF r1+i)=β r.1:=fun i r hi=>by
   have:=env (r1.length+i+1) r (by rw [List.getElem?_cons_succ,ru dn,show r1.length+i-r1.length=i by omega];exact hi)
   rwa [show 2+(r1.length+i+1)=3+EF r1+i by rw [Qt];omega] at this
  have k0:A9 β ([K1,K2]++CN (gg::(r1++r2))) (3+2*r1.length) 0=β K1:=E6 dn
  have k1:A9 β ([K1,K2]++CN (gg::(r1++r2))) (3+2*r1.length) 1=β K2:=E6 dn
  have kg:A9 β ([K1,K2]++CN (gg::(r1++r2))) (3+2*r1.length) 2=β gg.1:=env 0 gg rfl
  have p6':∀ (β':Env) (j:Nat),β' j=β K2→AO β' (AQ j 0 r1.length M1) u2:=by rw [e3];exact p6
  have can:=h1 M M1 gg t r1 r2 e4 e5 hl2 q1 p1 g1 (ACE (by rw [q2];exact ACD hg hP)) (ACE (by rw [p2];exact ACD hg hQ)) (by unfold C0;rw [hw];exact ACB hg hG) ct
  rw [q2,p2,hw] at can;rw [hK];refine ⟨_,_,can,dm,⟨u1,_,q6 _ 0 k0,⟨u2,_,p6' _ 1 k1,⟨u3,_,?_,⟨u4,_,MT rfl a4,ha,rfl⟩,rfl⟩,rfl⟩,rfl⟩,?_,?_⟩
  ·exact Az (Qu (k:=gg.1) kg (by rw [hgg];exact g2))
  ·have:=AM_ (hs:=[K1,K2]) (hb:=[An (ET 3 r1),An (ET (3+EF r1) r2)]) hg rfl hfs fun j d hj=>?_
   ·rw [ii] at this;exact this
   ·rw [ii];match j,hj with
    | 0,hj=>injection hj with hj;subst hj;exact ⟨rfl,q7 _ 3 0 k0 ev1⟩
    | 1,hj=>injection hj with hj;subst hj;exact ⟨rfl,p7 _ _ 1 k1 KD⟩
  ·have:=AM' (hs:=[K1,K2]) (hb:=[An (ET 3 r1),An (ET (3+EF r1) r2)]) rfl hfs fun j hj=>?_
   ·rw [ii] at this;exact this
   ·match j,hj with
    | 0,_=>exact q5
    | 1,_=>exact p5
 ·rename_i hn hk;injection hs with hs;refine ⟨[K1,K2,g.1],3,0,[],_,_,_,_,hs.symm,fun β us w ha hg hc=>?_⟩
  obtain ⟨u1,jf,a1,⟨u2,jg,a2,⟨u3,us3,a3,⟨u4,us4,a4,ha,rfl⟩,rfl⟩,rfl⟩,rfl⟩:=ha;obtain ⟨c1,cg,_⟩:=hc;obtain ⟨b1,c1⟩:=jy.1 c1;obtain ⟨b2,c1⟩:=jy.1 c1;obtain ⟨e1,e2⟩:=jy.1 hn;have e1:=Ar.1 e1;have e2:=Ar.1 e2;rw [Qt] at e1 e2;have ji:n1=0∨n1≠n2:=by
   rcases Bool.or_eq_true_iff.1 c1 with q | q
   ·exact .inl (Ar.1 q)
   ·exact .inr fun e=>by rw [Ar.2 e] at q;cases q
  obtain ⟨m,g1,g2,g3⟩:=WZ hg hG cg (A5 a3)
  have rowsK:∀ {A:AV} {K n:Nat} {l:List Rw} {u:gq},O8 H A=some (K,n,l)→AO β A u→(∃ X,β K=some X)∧∃ M,∀ (β':Env) (j:Nat),β' j=β K→AO β' (AQ j 0 n M) u:=by
   intro A K n l u hA hr;unfold O8 at hA;split at hA;case h_2=>cases hA
   rename_i K' n' hS;split at hA;case h_2=>cases hA
   rename_i ty cs o hk';split at hA;case h_2=>cases hA
   injection hA with hA;injection hA with f1 hA;injection hA with f2 f3;subst f1;subst f2;obtain ⟨M,x1,x2,y1,y2,y3⟩:=E8 hS hr;exact ⟨CM (hg.heap _ _ hk'),M,fun β' j e=>⟨x1,x2,Qu e y1,y2,y3⟩⟩
  obtain ⟨d1,M,v1⟩:=rowsK hP a1;obtain ⟨d2,M1,v2⟩:=rowsK hQ a2;have can:=h2 n1 M n2 M1 g.2.1 m t b1 b2 ji;rw [An' (l1:=l1) (l2:=l2) (by rw [← e1,← e2];exact ji)]
  refine ⟨_,_,can,dm,⟨u1,_,v1 _ 0 (E6 dn),⟨u2,_,v2 _ 1 (E6 dn),⟨u3,_,Az (Qu (E6 dn) g2),⟨u4,_,MT rfl a4,ha,rfl⟩,rfl⟩,rfl⟩,rfl⟩,⟨fun _ _ h=>by (cases h),fun _ _ _ _ _ h=>by (cases h),fun j B n hj=>?_⟩,fun j hj=>?_⟩
  ·unfold A9 at hj;split at hj
   ·exact hg.lt _ _ _ hj
   ·cases hj
  ·match j,hj with
   | 0,_=>exact d1
   | 1,_=>exact d2
   | 2,_=>exact g3.1
section
variable (n m:Nat) (xs:dt)
noncomputable def Tt (f:Func) (p:List Bool):h_:=Ak f [AQ 0 0 n m] [(0,some (An [.seq .u8 xs]))] 1 p
theorem AoB:AU dr oEb0 f11 300 1 [] (Tt n m xs f11 dx)=some (B4 (0,n,m,xs) ((Ay (AA xs 0 n),false)::[]),[],.val false [.b false],[]):=dm
theorem AoC:AU dr oEb0 f11 300 1 [] (Tt n m xs f11 dz)=some (B4 (0,n,m,xs) ((Ay (AA xs 0 n),true)::[]),[],Aw (!Ao (DZ (AA xs 0 n))),[]):=dm
theorem AoD:AU dr oEb0 f12 300 1 [] (Tt n m xs f12 dx)=some (B4 (0,n,m,xs) ((Ay (AA xs 0 n),false)::[]),[],.val false [.b false],[]):=dm
theorem AoE:AU dr oEb0 f12 300 1 [] (Tt n m xs f12 dz)=some (B4 (0,n,m,xs) ((Ay (AA xs 0 n),true)::[]),[],Aw (!Ao (DZ (AA xs 0 n))),[]):=dm
end
noncomputable def nC (x:dt):Bool:=Ay x&&!Ao (DZ x)
theorem ANW {F:gp} {fn:Func} (jc:dr.funcs[F]? = some fn) (hb:fn.body.isSome=true) (hl:Nat.ble 1 fn.ntmps=true) {n m:Nat} {xs:dt} (hw:∀ p,RD fn.ntmps (Tt n m xs fn p).s=true)
  (h1:AU dr oEb0 fn 300 1 [] (Tt n m xs fn dx)=some (B4 (0,n,m,xs) ((Ay (AA xs 0 n),false)::[]),[],.val false [.b false],[]))
  (h2:AU dr oEb0 fn 300 1 [] (Tt n m xs fn dz)=some (B4 (0,n,m,xs) ((Ay (AA xs 0 n),true)::[]),[],Aw (!Ao (DZ (AA xs 0 n))),[]))
  (hB:BO (0,n,m,xs)=true):Ab dr F [AQ 0 0 n m] [(0,some (An [.seq .u8 xs]))] 1 [] (Aw (nC (AA xs 0 n))) []:=by
 unfold nC;cases k:Ay (AA xs 0 n) with
 | false=>exact BN (Bf mR To jc hb hl h1 (hw _) (CO hB ⟨k,trivial⟩)) fun _ _ q=>Tq q
 | true=>exact Bf mR To jc hb hl h2 (hw _) (CO hB ⟨k,trivial⟩)
noncomputable def kvSp:ASpec:=fun args H fr ie=>match args with
 | [.val false [c]]=>match rowAt H c with
  | some g=>some (BP [g.1] 1 fr 0 [] (Aw (nC (AS g))) [] [(BO g,true)] ie)
  | none=>none
 | _=>none
theorem ANX {F:gp} {fn:Func} (jc:dr.funcs[F]? = some fn) (hb:fn.body.isSome=true) (iq:fw fn)
  (h:∀ {n m:Nat} {xs:dt},BO (0,n,m,xs)=true→Ab dr F [AQ 0 0 n m] [(0,some (An [.seq .u8 xs]))] 1 [] (Aw (nC (AA xs 0 n))) []):BI dr F kvSp:=by
 refine DN jc hb iq fun args H fr ie r hs=>?_
 unfold kvSp at hs;split at hs;case h_2=>cases hs
 rename_i c;split at hs;case h_2=>cases hs
 rename_i g hG;injection hs with hs;refine ⟨[g.1],1,0,[],_,_,_,_,hs.symm,fun β us w ha hg hc=>?_⟩
 obtain ⟨u1,jf,a1,ha,rfl⟩:=ha;obtain ⟨m,g1,g2,g3⟩:=WZ hg hG hc.1 (A5 a1)
 refine ⟨_,_,h (n:=g.2.1) (m:=m) (xs:=g.2.2.2) g1,dm,⟨u1,_,Az (Qu (E6 dn) g2),ha,rfl⟩,NJ (bs:=[An [.seq .u8 g.2.2.2]]) hg fun j d hj=>?_,fun j hj=>?_⟩
 ·match j,hj with
  | 0,hj=>injection hj with hj;subst hj;exact ⟨rfl,g3.2 _ 0 (E6 (by show 0<1;decide))⟩
 ·match j,hj with
  | 0,_=>exact g3.1
noncomputable def SEm0:dw:=(27,alSp)::(11,kvSp)::(12,kvSp)::(8,fewSp)::SVg
theorem ANY:AX dr SEm0:=⟨AoA func27 dm dm An6 An_,ANX func11 dm dm fun h=>ANW func11 dm dm (fun _=>by kernel_rfl) (AoB ..) (AoC ..) h,ANX func12 dm dm fun h=>ANW func12 dm dm (fun _=>by kernel_rfl) (AoD ..) (AoE ..) h,Ank,jG⟩
noncomputable abbrev oEm0:ia:=AG SEm0 KW12
theorem AoF:g_ dr oEm0:=AH ANY To
noncomputable def SEm:dw:=(10,BF dr oEm0 f10 300)::SEm0
theorem ANZ:AX dr SEm:=⟨BJ AoF AB func10 dm dm 300,ANY⟩
def nF (W:gn) (cs:List gq):Prop:=∃ (n m:Nat) (zs:dt) (L:Ex.Loc),n≤zs.length∧n≤m∧AK .i64 (n:Int)=true∧(∀ B q,L=Ex.Loc.at_ B q→B<W.heap.size)∧∀ ls:List Ex.Loc,AP (DH (ls++[L])) [.sl ls.length 0 n m] cs∧DK (DH (ls++[L])) (An [.seq .u8 zs]) ls.length W
section
variable {H:Type} {enc:gt×gq→H} {W:gn}
theorem ANa {L:Ex.Loc} {cs:List gq} (hL:L=.nil∧cs=[.slice none 0 0]∨L=.emp∧∃ a m,cs=[.slice (some a) 0 m]):nF W cs:=by
 refine ⟨0,0,[],L,ju _,ju _,rfl,fun B q h=>?_,fun ls=>⟨?_,.inr (.inl ⟨L,JL _ _,?_,⟨[],[],⟨rfl,by simp⟩,rfl,rfl⟩⟩)⟩⟩
 ·rcases hL with ⟨rfl,_⟩ | ⟨rfl,_⟩<;>cases h
 ·rcases hL with ⟨rfl,rfl⟩ | ⟨rfl,a,m,rfl⟩
  ·exact ⟨_,[],.inr (.inl ⟨JL _ _,rfl,rfl,rfl,rfl⟩),rfl,rfl⟩
  ·exact ⟨_,[],.inr (.inr ⟨JL _ _,rfl,rfl,rfl,a,m,rfl⟩),rfl,rfl⟩
 ·rcases hL with ⟨rfl,_⟩ | ⟨rfl,_⟩
  ·exact Or.inr rfl
  ·exact ⟨rfl,rfl⟩
theorem AoG {cs:List gq} {ir:Nat} {y:DataW H×List MemPlace} (ht:DataW.trod enc dr W 0 (fun _=>true) true ir 22 cs=some y):nF W cs:=by
 rcases Go.ChangeShapes.open_ints X_ u5 u6 ht with ⟨rfl,_⟩ | ⟨a,len,cap,zs,rfl,hb,hl,hm,hz,_,hcell,jj⟩
 ·exact ANa (L:=.nil) (.inl ⟨rfl,rfl⟩)
 ·by_cases h0:len=0
  ·subst h0;exact ANa (L:=.emp) (.inr ⟨rfl,a,cap,rfl⟩)
  obtain ⟨oa,n,m,e,h1,h2,h3⟩:=Af1 ht;injection e with e _;injection e with e1 e2 e3;subst e1;subst e2;subst e3;obtain ⟨L,zs',q1,q2,q3,q4⟩:=h3 dn;exact ⟨len,cap,zs',L,q2,h1,h2,q3,fun ls=>⟨⟨_,[],(q4 ls).1,rfl,rfl⟩,(q4 ls).2⟩⟩
end
def Tu (r:Rw):Prop:=r.2.1≤r.2.2.2.length∧r.2.1≤r.2.2.1∧AK .i64 (r.2.1:Int)=true
theorem ANb {W:gn}:∀ (css:List (List gq)),(∀ cs∈css,nF W cs)→∀ (ls:List Ex.Loc) (bs:List ib),ArgsOk W ls bs→∃ (ls':List Ex.Loc) (rs:List Rw),rs.length=css.length∧ls'.length=css.length∧(∀ r∈rs,Tu r)∧ArgsOk W (ls++ls') (bs++D1 rs)∧∀ ls2,AP (DH (ls++ls'++ls2)) (ET ls.length rs) css.flatten
 | [],_,ls,bs,A=>⟨[],[],rfl,rfl,fun _ h=>by (cases h),by simpa [D1] using A,fun _=>rfl⟩
 | cs::css,h,ls,bs,A=>by
  obtain ⟨n,m,zs,L,h1,h2,h3,h4,h5⟩:=h cs (by simp)
  obtain ⟨ls',rs,q1,q2,q3,q4,q5⟩:=ANb css (fun c hc=>h c (by simp [hc])) (ls++[L]) (bs++[An [.seq .u8 zs]]) (A.snoc (h5 ls).2 rfl h4)
  refine ⟨L::ls',(0,n,m,zs)::rs,by simp [q1],by simp [q2],fun r hr=>?_,by simpa [D1] using q4,fun ls2=>?_⟩
  ·rcases ka.1 hr with rfl | hr
   ·exact ⟨h1,h2,h3⟩
   ·exact q3 r hr
  ·obtain ⟨l1,l2,x1,x2,x3⟩:=(h5 ls).1
   simp only [AP] at x2;subst x2;rw [lh] at x3;subst x3;have e1:ls++L::ls'++ls2=ls++[L]++(ls'++ls2):=by simp
   have e2:ls++L::ls'++ls2=ls++[L]++ls'++ls2:=by simp
   refine ⟨_,css.flatten,ACY (by rw [e1];exact Vj _ _) x1,?_,by simp⟩
   have:=q5 ls2
   rw [ku] at this;rw [e2];exact this
def Qw:List Rw→List Nat
 | []=>[]
 | r::l=>r.2.1::Qw l
abbrev Zw (rs:List Rw) (b:Bool) (r:Cnd):Cnd:=(true,true)::(Wg (Qw rs),true)::(!Jn (Qw rs),b)::r
def tzZ:AV:=.val false [.b true]
theorem ACJ:∀ {l:List Rw},(∀ r∈l,Tu r)→Wg (Qw l)=true
 | [],_=>rfl
 | x::l,h=>by
  show (AK _ _&&Wg (Qw l))=true;rw [(h x (by simp)).2.2,ACJ fun r hr=>h r (by simp [hr])];rfl
theorem ACK:∀ {l:List Rw},(∀ r∈l,Tu r)→Jn (Qw l)=true→E4 l=true
 | [],_,_=>rfl
 | x::l,h,hf=>by
  obtain ⟨h1,h2⟩:=jy.1 hf;obtain ⟨a1,a2,a3⟩:=h x (by simp)
  show (BO x&&E4 l)=true;rw [show BO x=true from AM4 (k:=x.1) a1 a2 a3 (mw (jp h1) dp),ACK (fun r hr=>h r (by simp [hr])) h2];rfl
theorem ANc:∀ a b:List Rw,D1 (a++b)=D1 a++D1 b
 | [],_=>rfl
 | x::a,b=>by rw [n_,D1,ANc a b];rfl
def IK (k:Nat) (h g:Rw) (M:Nat):List AV:=[AQ 0 0 k M,AQ 1 0 h.2.1 h.2.2.1,AQ 2 0 g.2.1 g.2.2.1]
def IL (rs:List Rw) (h g:Rw):Heap:=LG 0 ([An (ET 3 rs)]++D1 (h::(g::rs)))
noncomputable def GS (k:Nat) (rs:List Rw) (h g:Rw) (M:Nat) (p:List Bool):=Qv (bU dr oEb1 f17 900) (IK k h g M) (IL rs h g) (3+k) p
noncomputable def zS (a:Pt FP):List Rw→Pt FP
 | []=>a
 | r::l=>zS (Rg.add (F7 a) (F7 (DZ (AS r)))) l
def nG (q:Rw):Bool×Bool:=(Nat.ble q.2.1 4398046511104,true)
noncomputable def Jo (q:Rw) (r:Cnd):Cnd:=tt 3 (B4 q ((!Ay (AS q),false)::r))
section
variable (M:Nat) (h g:Rw)
theorem AoH:GS 0 [] h g M (bt 1 0)=some (FW ([]),.val false [.b false]):=dm
end
section
variable (M:Nat) (h g r0:Rw)
theorem AoI:GS 1 [r0] h g M (bt 2 3)=some (tt 3 (B4 r0 ((!Ay (AS r0),true)::[])),.val false [.b false]):=dm
theorem AoJ:GS 1 [r0] h g M (bt 4 1)=some (Jo r0 (((false,false)::(!Ao (zS .inf [r0]),false)::[])),.val false [.b false]):=dm
theorem AoK:GS 1 [r0] h g M (bt 5 25)=some (Jo r0 (((false,false)::(!Ao (zS .inf [r0]),true)::B4 g ((!DP (AS g),true)::[]))),.val false [.b false]):=dm
theorem AoL:GS 1 [r0] h g M (bt 22 832041)=some (Jo r0 (((false,false)::(!Ao (zS .inf [r0]),true)::B4 g ((!DP (AS g),false)::tt 3 (MD h::MD h::(true,true)::nG h::tt 3 (MD h::FW ((false,false)::tt 6 ((false,false)::FW (tt 3 (Tr (zS .inf [r0]) (HE FV (AS h)) (tt 6 ((false,false)::tt 2 (Tr (Rg.neg (F7 G1B)) (Hk (AS g)) (tt 6 ((false,false)::(false,false)::tt 2 ([]))))))))))))))),Aw (Zs [(zS .inf [r0],HE FV (AS h))] (Hk (AS g)))):=dm
end
section
variable (M:Nat) (h g r0 r1:Rw)
theorem AoM:GS 2 [r0,r1] h g M (bt 2 3)=some (tt 3 (B4 r0 ((!Ay (AS r0),true)::[])),.val false [.b false]):=dm
theorem AoN:GS 2 [r0,r1] h g M (bt 4 13)=some (Jo r0 ((tt 2 (B4 r1 ((!Ay (AS r1),true)::[])))),.val false [.b false]):=dm
theorem AoO:GS 2 [r0,r1] h g M (bt 6 5)=some (Jo r0 ((tt 2 (B4 r1 ((!Ay (AS r1),false)::(false,false)::(!Ao (zS .inf [r0,r1]),false)::[])))),.val false [.b false]):=dm
theorem AoP:GS 2 [r0,r1] h g M (bt 7 101)=some (Jo r0 ((tt 2 (B4 r1 ((!Ay (AS r1),false)::(false,false)::(!Ao (zS .inf [r0,r1]),true)::B4 g ((!DP (AS g),true)::[]))))),.val false [.b false]):=dm
theorem AoQ:GS 2 [r0,r1] h g M (bt 24 3328165)=some (Jo r0 ((tt 2 (B4 r1 ((!Ay (AS r1),false)::(false,false)::(!Ao (zS .inf [r0,r1]),true)::B4 g ((!DP (AS g),false)::tt 3 (MD h::MD h::(true,true)::nG h::tt 3 (MD h::FW ((false,false)::tt 6 ((false,false)::FW (tt 3 (Tr (zS .inf [r0,r1]) (HE FV (AS h)) (tt 6 ((false,false)::tt 2 (Tr (Rg.neg (F7 G1B)) (Hk (AS g)) (tt 6 ((false,false)::(false,false)::tt 2 ([]))))))))))))))))),Aw (Zs [(zS .inf [r0,r1],HE FV (AS h))] (Hk (AS g)))):=dm
end
section
variable (M:Nat) (h g r0 r1 r2:Rw)
theorem AoR:GS 3 [r0,r1,r2] h g M (bt 2 3)=some (tt 3 (B4 r0 ((!Ay (AS r0),true)::[])),.val false [.b false]):=dm
theorem AoS:GS 3 [r0,r1,r2] h g M (bt 4 13)=some (Jo r0 ((tt 2 (B4 r1 ((!Ay (AS r1),true)::[])))),.val false [.b false]):=dm
theorem AoT:GS 3 [r0,r1,r2] h g M (bt 6 53)=some (Jo r0 ((tt 2 (B4 r1 ((!Ay (AS r1),false)::tt 2 (B4 r2 ((!Ay (AS r2),true)::[])))))),.val false [.b false]):=dm
theorem AoU:GS 3 [r0,r1,r2] h g M (bt 8 21)=some (Jo r0 ((tt 2 (B4 r1 ((!Ay (AS r1),false)::tt 2 (B4 r2 ((!Ay (AS r2),false)::(false,false)::(!Ao (zS .inf [r0,r1,r2]),false)::[])))))),.val false [.b false]):=dm
theorem AoV:GS 3 [r0,r1,r2] h g M (bt 9 405)=some (Jo r0 ((tt 2 (B4 r1 ((!Ay (AS r1),false)::tt 2 (B4 r2 ((!Ay (AS r2),false)::(false,false)::(!Ao (zS .inf [r0,r1,r2]),true)::B4 g ((!DP (AS g),true)::[]))))))),.val false [.b false]):=dm
theorem AoW:GS 3 [r0,r1,r2] h g M (bt 26 13312661)=some (Jo r0 ((tt 2 (B4 r1 ((!Ay (AS r1),false)::tt 2 (B4 r2 ((!Ay (AS r2),false)::(false,false)::(!Ao (zS .inf [r0,r1,r2]),true)::B4 g ((!DP (AS g),false)::tt 3 (MD h::MD h::(true,true)::nG h::tt 3 (MD h::FW ((false,false)::tt 6 ((false,false)::FW (tt 3 (Tr (zS .inf [r0,r1,r2]) (HE FV (AS h)) (tt 6 ((false,false)::tt 2 (Tr (Rg.neg (F7 G1B)) (Hk (AS g)) (tt 6 ((false,false)::(false,false)::tt 2 ([]))))))))))))))))))),Aw (Zs [(zS .inf [r0,r1,r2],HE FV (AS h))] (Hk (AS g)))):=dm
end
noncomputable def SEr:dw:=SWe++(SEm++(SQe++SR2))
theorem AoX:AX dr SEr:=H9 AJz (H9 ANZ (H9 S' VC))
noncomputable abbrev oEr:ia:=AG SEr KW12
theorem AoY:g_ dr oEr:=AH AoX To
noncomputable def IM (k:Nat) (rs:List Rw) (h g:Rw) (M:Nat) (p:List Bool):=Qv (BF dr oEr f18 900) (IK k h g M) (IL rs h g) (3+k) p
noncomputable def zM (S:Pt FP):Pt FP:=mo ((A8 S,Av S,Ao S):R (Pt FP))
noncomputable def HG (q:Rw) (r:Cnd):Cnd:=tt 3 (B4 q ((!Ay (AS q),false)::r))
noncomputable def IN (S:Pt FP):Rw:=(0,48,48,Lo true (zM S))
section
variable (M:Nat) (h g:Rw)
theorem AoZ:IM 0 [] h g M (bt 1 0)=some (FW [],.val false [.b false]):=dm
end
section
variable (M:Nat) (h g r0:Rw)
theorem Aoa:IM 1 [r0] h g M (bt 2 3)=some (tt 3 (B4 r0 ((!Ay (AS r0),true)::[])),.val false [.b false]):=dm
theorem Aob:IM 1 [r0] h g M (bt 4 9)=some (HG r0 (FW ((Ao (zS .inf [r0]),true)::[])),.val false [.b false]):=dm
theorem Aoc:IM 1 [r0] h g M (bt 5 1)=some (HG r0 (FW ((Ao (zS .inf [r0]),false)::(A2 (zM (zS .inf [r0])),true)::(E4 [g,IN (zS .inf [r0]),h]&&JX FV,true)::[])),Aw (ME [AS (IN (zS .inf [r0]))] [AS h] (AS g) FV)):=dm
end
section
variable (M:Nat) (h g r0 r1:Rw)
theorem Aod:IM 2 [r0,r1] h g M (bt 2 3)=some (tt 3 (B4 r0 ((!Ay (AS r0),true)::[])),.val false [.b false]):=dm
theorem Aoe:IM 2 [r0,r1] h g M (bt 4 13)=some (HG r0 (tt 3 (B4 r1 ((!Ay (AS r1),true)::[]))),.val false [.b false]):=dm
theorem Aof:IM 2 [r0,r1] h g M (bt 6 37)=some (HG r0 (HG r1 (FW ((Ao (zS .inf [r0,r1]),true)::[]))),.val false [.b false]):=dm
theorem Aog:IM 2 [r0,r1] h g M (bt 7 5)=some (HG r0 (HG r1 (FW ((Ao (zS .inf [r0,r1]),false)::(A2 (zM (zS .inf [r0,r1])),true)::(E4 [g,IN (zS .inf [r0,r1]),h]&&JX FV,true)::[]))),Aw (ME [AS (IN (zS .inf [r0,r1]))] [AS h] (AS g) FV)):=dm
end
section
variable (M:Nat) (h g r0 r1 r2:Rw)
theorem Aoh:IM 3 [r0,r1,r2] h g M (bt 2 3)=some (tt 3 (B4 r0 ((!Ay (AS r0),true)::[])),.val false [.b false]):=dm
theorem Aoi:IM 3 [r0,r1,r2] h g M (bt 4 13)=some (HG r0 (tt 3 (B4 r1 ((!Ay (AS r1),true)::[]))),.val false [.b false]):=dm
theorem Aoj:IM 3 [r0,r1,r2] h g M (bt 6 53)=some (HG r0 (HG r1 (tt 3 (B4 r2 ((!Ay (AS r2),true)::[])))),.val false [.b false]):=dm
theorem Aok:IM 3 [r0,r1,r2] h g M (bt 8 149)=some (HG r0 (HG r1 (HG r2 (FW ((Ao (zS .inf [r0,r1,r2]),true)::[])))),.val false [.b false]):=dm
theorem Aol:IM 3 [r0,r1,r2] h g M (bt 9 21)=some (HG r0 (HG r1 (HG r2 (FW ((Ao (zS .inf [r0,r1,r2]),false)::(A2 (zM (zS .inf [r0,r1,r2])),true)::(E4 [g,IN (zS .inf [r0,r1,r2]),h]&&JX FV,true)::[])))),Aw (ME [AS (IN (zS .inf [r0,r1,r2]))] [AS h] (AS g) FV)):=dm
end
theorem ANd {p:Pt FP} (h:Ao p=true):p=.inf:=by
 cases p with
 | inf=>rfl
 | pt x y=>cases h
theorem Aom {p q:Pt FP} (hp:A2 p=true) (hq:A2 q=true):A2 (Rg.add p q)=true:=by
 obtain ⟨a1,a2⟩:=jy.1 hp;obtain ⟨b1,b2⟩:=jy.1 hq;have c1:=(Ih _).1 a1
 have c2:=(Ih _).1 b1
 unfold A2;rw [(Ih _).2 (If C1 c1 c2),Y3 C1 c1 c2,ANd a2,ANd b2];rfl
noncomputable def zL (a:Pt FP):List (dt)→Pt FP
 | []=>a
 | x::r=>zL (Rg.add a (DZ x)) r
theorem Jp:∀ (l:List Rw) (a:Pt FP),zS a l=zL a (DT l)
 | [],_=>rfl
 | r::l,a=>by
  show zS (Rg.add (F7 a) (F7 (DZ (AS r)))) l=zL (Rg.add a (DZ (AS r))) (DT l);rw [O9,O9,Jp l]
theorem Kv {a:Pt FP} {r:Rw} (h:A2 a=true) (y:C0 r) (k:Ay (AS r)=true):A2 (Rg.add (F7 a) (F7 (DZ (AS r))))=true:=by
 rw [O9,O9];exact Aom h (ANN y k)
theorem nJ (S:Pt FP):zM S=S:=ANG S
noncomputable def IP:List (dt)→Bool
 | []=>true
 | x::r=>Ay x&&IP r
theorem Kw {x:dt} {l:List (dt)} (h:Ay x=true) (h2:IP l=true):IP (x::l)=true:=by
 show (Ay x&&IP l)=true;rw [h,h2];rfl
theorem Ky {x:dt} {l:List (dt)} (h:Ay x=false):IP (x::l)=false:=by
 show (Ay x&&IP l)=false;rw [h];rfl
theorem Qy {x:dt} {l:List (dt)} (h:IP l=false):IP (x::l)=false:=by
 show (Ay x&&IP l)=false;rw [h];cases Ay x<;>rfl
noncomputable def faV (L:List (dt)) (m g:dt):Bool:=IP L&&(!Ao (zL .inf L)&&(DP g&&decide (HF 1 [(zL .inf L,HE FV m)]=finF (DA G1B (Hk g)))))
theorem ANe:∃ f:List (dt)→dt→dt→Bool,∀ a b s,f a b s=faV a b s:=⟨_,fun _ _ _=>rfl⟩
noncomputable def HH:List (dt)→dt→dt→Bool:=Classical.choose ANe
theorem Aon (L:List (dt)) (m g:dt):HH L m g=faV L m g:=lf ANe L m g
theorem nK (L:List (dt)) (m g:dt):HH L m g=(IP L&&(!Ao (zL .inf L)&&(DP g&&decide (HF 1 [(zL .inf L,HE FV m)]=finF (DA G1B (Hk g)))))):=by rw [Aon,faV]
section
variable {L:List (dt)} {m g:dt} {S:Pt FP}
theorem Kz (h:IP L=false):HH L m g=false:=by rw [nK,h];rfl
theorem Qz (e:zL .inf L=S) (h:Ao S=true):HH L m g=false:=by
 rw [nK,e,h];cases IP L<;>rfl
theorem ACM (h:DP g=false):HH L m g=false:=by
 rw [nK,h];cases IP L<;>cases (!Ao (zL .inf L))<;>rfl
theorem Wo (k:IP L=true) (e:zL .inf L=S) (h:Ao S=false):HH L m g=(DP g&&decide (HF 1 [(S,HE FV m)]=finF (DA G1B (Hk g)))):=by
 rw [nK,e,h,k,qw,lg,lg]
theorem Aoo (S:Pt FP):AS (IN S)=AA (Lo true (zM S)) 0 48:=dm
theorem Aop (h:A2 S=true):EQ true (AS (IN S))=(S,0):=by
 have e:=AeC true S;have d:=AIR h true;have k:48*kS true=48:=rfl
 rw [k] at e d;unfold M4 at e;have e:=kj e;rw [Aoo,nJ,← e];exact d
theorem ACN (h:A2 S=true) (hi:Ao S=false):ME [AS (IN S)] [m] g FV=(DP g&&decide (HF 1 [(S,HE FV m)]=finF (DA G1B (Hk g)))):=by
 have d:=Aop h;have k:Ay (AS (IN S))=true:=by unfold Ay;rw [d];rfl
 have p:DZ (AS (IN S))=S:=by unfold DZ;rw [d]
 rw [Zv,ANO k (by rw [p];exact hi),ANP,p,lg]
end
section
variable {r:Cnd} {q h g:Rw}
theorem K3 (hb:BO q=true) (h1:(!Ay (AS q))=false) (hr:AM r):AM (Jo q r):=AY 3 (CO hb ⟨h1,hr⟩)
theorem Hl (hb:BO q=true) (h1:(!Ay (AS q))=false) (hr:AM r):AM (HG q r):=AY 3 (CO hb ⟨h1,hr⟩)
theorem ACO (hb:BO q=true) (hr:AM r):AM (nG q::r):=by
 obtain ⟨b1,b2,b3,b4⟩:=Zp hb;exact ⟨jr b4,hr⟩
theorem ACP (bh:BO h=true) (bg:BO g=true) (S:Pt FP):(E4 [g,IN S,h]&&JX FV)=true:=by
 have z:BO (IN S)=true:=by
  have e:(IN S).2.2.2.length=48:=by
   show (Lo true (zM S)).length=48;rw [AeB];rfl
  unfold BO;rw [e];rfl
 show ((BO g&&(BO (IN S)&&(BO h&&true)))&&JX FV)=true;rw [bg,z,bh,AkR];rfl
end
section
variable {args:List AV} {H:Heap} {k0:Nat} {p:List Bool} {c:Cnd} {v:AV}
noncomputable def faR (args:List AV) (H:Heap) (k0:Nat) (p:List Bool):=Qv (bU dr oEb1 f17 900) args H k0 p
noncomputable def fsR (args:List AV) (H:Heap) (k0:Nat) (p:List Bool):=Qv (BF dr oEr f18 900) args H k0 p
theorem ANf (h:faR args H k0 p=some (c,v)) (hc:AM c):Ab dr 17 args H k0 [] v [] :=
 AB6 (APP AM1 AB func17 dm dm 900) func17 dm dm h hc
theorem ANg (h:fsR args H k0 p=some (c,v)) (hc:AM c):Ab dr 18 args H k0 [] v [] :=
 AB6 (BJ AoY AB func18 dm dm 900) func18 dm dm h hc
end
section
variable {M k:Nat} {h g:Rw} {l:List Rw} {p:List Bool} {c:Cnd} {b:Bool}
theorem Jq (e:GS k l h g M p=some (c,.val false [.b false])) (hc:AM c) (hv:b=false):Ab dr 17 (IK k h g M) (IL l h g) (3+k) [] (Aw b) []:=by
 subst hv;exact BN (ANf e hc) fun _ _ q=>Tq q
theorem ACQ {b':Bool} (e:GS k l h g M p=some (c,Aw b')) (hc:AM c) (hv:b=b'):Ab dr 17 (IK k h g M) (IL l h g) (3+k) [] (Aw b) []:=by
 subst hv;exact ANf e hc
theorem NS (e:IM k l h g M p=some (c,.val false [.b false])) (hc:AM c) (hv:b=false):Ab dr 18 (IK k h g M) (IL l h g) (3+k) [] (Aw b) []:=by
 subst hv;exact BN (ANg e hc) fun _ _ q=>Tq q
theorem ACR {b':Bool} (e:IM k l h g M p=some (c,Aw b')) (hc:AM c) (hv:b=b'):Ab dr 18 (IK k h g M) (IL l h g) (3+k) [] (Aw b) []:=by
 subst hv;exact ANg e hc
end
theorem Aos (M:Nat) {h g:Rw} (_bh:BO h=true) (_bg:BO g=true) (_yg:C0 g):Ab dr 17 (IK 0 h g M) (IL [] h g) (3+0) [] (Aw (HH [] (AS h) (AS g))) []:=Jq (AoH ..) (F8 trivial) (Qz rfl rfl)
theorem Aot (M:Nat) {h g r0:Rw} (br0:BO r0=true) (yr0:C0 r0) (bh:BO h=true) (bg:BO g=true) (yg:C0 g):Ab dr 17 (IK 1 h g M) (IL [r0] h g) (3+1) [] (Aw (HH [AS r0] (AS h) (AS g))) []:=by
 cases k0:Ay (AS r0) with
 | false =>
  have n0:(!Ay (AS r0))=true:=by rw [k0];rfl
  exact Jq (AoI ..) (AY 3 (CO br0 ⟨n0,trivial⟩)) (Kz (Ky k0))
 | true =>
  have n0:(!Ay (AS r0))=false:=by rw [k0];rfl
  have hS:A2 (zS .inf [r0])=true:=(Kv VM yr0 k0)
  cases z0:Ao (zS .inf [r0]) with
  | true =>
   have z1:(!Ao (zS .inf [r0]))=false:=by rw [z0];rfl
   exact Jq (AoJ ..) (K3 br0 n0 ⟨rfl,⟨z1,trivial⟩⟩) (Qz ((Jp [r0] .inf).symm) z0)
  | false =>
   have z1:(!Ao (zS .inf [r0]))=true:=by rw [z0];rfl
   cases m0:DP (AS g) with
   | false =>
    have m1:(!DP (AS g))=true:=by rw [m0];rfl
    exact Jq (AoK ..) (K3 br0 n0 ⟨rfl,⟨z1,(CO bg ⟨m1,trivial⟩)⟩⟩) (ACM m0)
   | true =>
    have m1:(!DP (AS g))=false:=by rw [m0];rfl
    have m2:=m9 yg m0;exact ACQ (AoL ..) (K3 br0 n0 ⟨rfl,⟨z1,(CO bg ⟨m1,(AY 3 (O' bh (O' bh ⟨rfl,(ACO bh (AY 3 (O' bh (F8 ⟨rfl,(AY 6 ⟨rfl,(F8 (AY 3 (Wn hS (m8 _ _) (AY 6 ⟨rfl,(AY 2 (Wn AB_ m2 (AY 6 ⟨rfl,⟨rfl,(AY 2 trivial)⟩⟩)))⟩))))⟩)⟩))))⟩)))⟩)⟩⟩) (by rw [AB9 _ m2,Wo (L:=[AS r0]) (Kw k0 rfl) ((Jp [r0] .inf).symm) z0,m0,lg])
theorem Aou (M:Nat) {h g r0 r1:Rw} (br0:BO r0=true) (yr0:C0 r0) (br1:BO r1=true) (yr1:C0 r1) (bh:BO h=true) (bg:BO g=true) (yg:C0 g):Ab dr 17 (IK 2 h g M) (IL [r0,r1] h g) (3+2) [] (Aw (HH [AS r0,AS r1] (AS h) (AS g))) []:=by
 cases k0:Ay (AS r0) with
 | false =>
  have n0:(!Ay (AS r0))=true:=by rw [k0];rfl
  exact Jq (AoM ..) (AY 3 (CO br0 ⟨n0,trivial⟩)) (Kz (Ky k0))
 | true =>
  have n0:(!Ay (AS r0))=false:=by rw [k0];rfl
  cases k1:Ay (AS r1) with
  | false =>
   have n1:(!Ay (AS r1))=true:=by rw [k1];rfl
   exact Jq (AoN ..) (K3 br0 n0 (AY 2 (CO br1 ⟨n1,trivial⟩))) (Kz (Qy (Ky k1)))
  | true =>
   have n1:(!Ay (AS r1))=false:=by rw [k1];rfl
   have hS:A2 (zS .inf [r0,r1])=true:=(Kv (Kv VM yr0 k0) yr1 k1)
   cases z0:Ao (zS .inf [r0,r1]) with
   | true =>
    have z1:(!Ao (zS .inf [r0,r1]))=false:=by rw [z0];rfl
    exact Jq (AoO ..) (K3 br0 n0 (AY 2 (CO br1 ⟨n1,⟨rfl,⟨z1,trivial⟩⟩⟩))) (Qz ((Jp [r0,r1] .inf).symm) z0)
   | false =>
    have z1:(!Ao (zS .inf [r0,r1]))=true:=by rw [z0];rfl
    cases m0:DP (AS g) with
    | false =>
     have m1:(!DP (AS g))=true:=by rw [m0];rfl
     exact Jq (AoP ..) (K3 br0 n0 (AY 2 (CO br1 ⟨n1,⟨rfl,⟨z1,(CO bg ⟨m1,trivial⟩)⟩⟩⟩))) (ACM m0)
    | true =>
     have m1:(!DP (AS g))=false:=by rw [m0];rfl
     have m2:=m9 yg m0;exact ACQ (AoQ ..) (K3 br0 n0 (AY 2 (CO br1 ⟨n1,⟨rfl,⟨z1,(CO bg ⟨m1,(AY 3 (O' bh (O' bh ⟨rfl,(ACO bh (AY 3 (O' bh (F8 ⟨rfl,(AY 6 ⟨rfl,(F8 (AY 3 (Wn hS (m8 _ _) (AY 6 ⟨rfl,(AY 2 (Wn AB_ m2 (AY 6 ⟨rfl,⟨rfl,(AY 2 trivial)⟩⟩)))⟩))))⟩)⟩))))⟩)))⟩)⟩⟩⟩))) (by rw [AB9 _ m2,Wo (L:=[AS r0,AS r1]) (Kw k0 (Kw k1 rfl)) ((Jp [r0,r1] .inf).symm) z0,m0,lg])
theorem Aov (M:Nat) {h g r0 r1 r2:Rw} (br0:BO r0=true) (yr0:C0 r0) (br1:BO r1=true) (yr1:C0 r1) (br2:BO r2=true) (yr2:C0 r2) (bh:BO h=true) (bg:BO g=true) (yg:C0 g):Ab dr 17 (IK 3 h g M) (IL [r0,r1,r2] h g) (3+3) [] (Aw (HH [AS r0,AS r1,AS r2] (AS h) (AS g))) []:=by
 cases k0:Ay (AS r0) with
 | false =>
  have n0:(!Ay (AS r0))=true:=by rw [k0];rfl
  exact Jq (AoR ..) (AY 3 (CO br0 ⟨n0,trivial⟩)) (Kz (Ky k0))
 | true =>
  have n0:(!Ay (AS r0))=false:=by rw [k0];rfl
  cases k1:Ay (AS r1) with
  | false =>
   have n1:(!Ay (AS r1))=true:=by rw [k1];rfl
   exact Jq (AoS ..) (K3 br0 n0 (AY 2 (CO br1 ⟨n1,trivial⟩))) (Kz (Qy (Ky k1)))
  | true =>
   have n1:(!Ay (AS r1))=false:=by rw [k1];rfl
   cases k2:Ay (AS r2) with
   | false =>
    have n2:(!Ay (AS r2))=true:=by rw [k2];rfl
    exact Jq (AoT ..) (K3 br0 n0 (AY 2 (CO br1 ⟨n1,(AY 2 (CO br2 ⟨n2,trivial⟩))⟩))) (Kz (Qy (Qy (Ky k2))))
   | true =>
    have n2:(!Ay (AS r2))=false:=by rw [k2];rfl
    have hS:A2 (zS .inf [r0,r1,r2])=true:=(Kv (Kv (Kv VM yr0 k0) yr1 k1) yr2 k2)
    cases z0:Ao (zS .inf [r0,r1,r2]) with
    | true =>
     have z1:(!Ao (zS .inf [r0,r1,r2]))=false:=by rw [z0];rfl
     exact Jq (AoU ..) (K3 br0 n0 (AY 2 (CO br1 ⟨n1,(AY 2 (CO br2 ⟨n2,⟨rfl,⟨z1,trivial⟩⟩⟩))⟩))) (Qz ((Jp [r0,r1,r2] .inf).symm) z0)
    | false =>
     have z1:(!Ao (zS .inf [r0,r1,r2]))=true:=by rw [z0];rfl
     cases m0:DP (AS g) with
     | false =>
      have m1:(!DP (AS g))=true:=by rw [m0];rfl
      exact Jq (AoV ..) (K3 br0 n0 (AY 2 (CO br1 ⟨n1,(AY 2 (CO br2 ⟨n2,⟨rfl,⟨z1,(CO bg ⟨m1,trivial⟩)⟩⟩⟩))⟩))) (ACM m0)
     | true =>
      have m1:(!DP (AS g))=false:=by rw [m0];rfl
      have m2:=m9 yg m0;exact ACQ (AoW ..) (K3 br0 n0 (AY 2 (CO br1 ⟨n1,(AY 2 (CO br2 ⟨n2,⟨rfl,⟨z1,(CO bg ⟨m1,(AY 3 (O' bh (O' bh ⟨rfl,(ACO bh (AY 3 (O' bh (F8 ⟨rfl,(AY 6 ⟨rfl,(F8 (AY 3 (Wn hS (m8 _ _) (AY 6 ⟨rfl,(AY 2 (Wn AB_ m2 (AY 6 ⟨rfl,⟨rfl,(AY 2 trivial)⟩⟩)))⟩))))⟩)⟩))))⟩)))⟩)⟩⟩⟩))⟩))) (by rw [AB9 _ m2,Wo (L:=[AS r0,AS r1,AS r2]) (Kw k0 (Kw k1 (Kw k2 rfl))) ((Jp [r0,r1,r2] .inf).symm) z0,m0,lg])
theorem Aow (M:Nat) {h g:Rw} (_bh:BO h=true) (_bg:BO g=true) (_yg:C0 g):Ab dr 18 (IK 0 h g M) (IL [] h g) (3+0) [] (Aw (HH [] (AS h) (AS g))) []:=NS (AoZ ..) (F8 trivial) (Qz rfl rfl)
theorem Aox (M:Nat) {h g r0:Rw} (br0:BO r0=true) (yr0:C0 r0) (bh:BO h=true) (bg:BO g=true) (_yg:C0 g):Ab dr 18 (IK 1 h g M) (IL [r0] h g) (3+1) [] (Aw (HH [AS r0] (AS h) (AS g))) []:=by
 cases k0:Ay (AS r0) with
 | false =>
  have n0:(!Ay (AS r0))=true:=by rw [k0];rfl
  exact NS (Aoa ..) (AY 3 (CO br0 ⟨n0,trivial⟩)) (Kz (Ky k0))
 | true =>
  have n0:(!Ay (AS r0))=false:=by rw [k0];rfl
  have hS:A2 (zS .inf [r0])=true:=(Kv VM yr0 k0)
  cases z0:Ao (zS .inf [r0]) with
  | true =>
   have z1:(!Ao (zS .inf [r0]))=false:=by rw [z0];rfl
   exact NS (Aob ..) (Hl br0 n0 (F8 ⟨z0,trivial⟩)) (Qz ((Jp [r0] .inf).symm) z0)
  | false =>
   have z1:(!Ao (zS .inf [r0]))=true:=by rw [z0];rfl
   have zi:A2 (zM (zS .inf [r0]))=true:=by rw [nJ];exact hS
   exact ACR (Aoc ..) (Hl br0 n0 (F8 ⟨z0,⟨zi,⟨ACP bh bg _,trivial⟩⟩⟩)) (by rw [Wo (L:=[AS r0]) (Kw k0 rfl) ((Jp [r0] .inf).symm) z0,ACN hS z0])
theorem Aoy (M:Nat) {h g r0 r1:Rw} (br0:BO r0=true) (yr0:C0 r0) (br1:BO r1=true) (yr1:C0 r1) (bh:BO h=true) (bg:BO g=true) (_yg:C0 g):Ab dr 18 (IK 2 h g M) (IL [r0,r1] h g) (3+2) [] (Aw (HH [AS r0,AS r1] (AS h) (AS g))) []:=by
 cases k0:Ay (AS r0) with
 | false =>
  have n0:(!Ay (AS r0))=true:=by rw [k0];rfl
  exact NS (Aod ..) (AY 3 (CO br0 ⟨n0,trivial⟩)) (Kz (Ky k0))
 | true =>
  have n0:(!Ay (AS r0))=false:=by rw [k0];rfl
  cases k1:Ay (AS r1) with
  | false =>
   have n1:(!Ay (AS r1))=true:=by rw [k1];rfl
   exact NS (Aoe ..) (Hl br0 n0 (AY 3 (CO br1 ⟨n1,trivial⟩))) (Kz (Qy (Ky k1)))
  | true =>
   have n1:(!Ay (AS r1))=false:=by rw [k1];rfl
   have hS:A2 (zS .inf [r0,r1])=true:=(Kv (Kv VM yr0 k0) yr1 k1)
   cases z0:Ao (zS .inf [r0,r1]) with
   | true =>
    have z1:(!Ao (zS .inf [r0,r1]))=false:=by rw [z0];rfl
    exact NS (Aof ..) (Hl br0 n0 (Hl br1 n1 (F8 ⟨z0,trivial⟩))) (Qz ((Jp [r0,r1] .inf).symm) z0)
   | false =>
    have z1:(!Ao (zS .inf [r0,r1]))=true:=by rw [z0];rfl
    have zi:A2 (zM (zS .inf [r0,r1]))=true:=by rw [nJ];exact hS
    exact ACR (Aog ..) (Hl br0 n0 (Hl br1 n1 (F8 ⟨z0,⟨zi,⟨ACP bh bg _,trivial⟩⟩⟩))) (by rw [Wo (L:=[AS r0,AS r1]) (Kw k0 (Kw k1 rfl)) ((Jp [r0,r1] .inf).symm) z0,ACN hS z0])
theorem Aoz (M:Nat) {h g r0 r1 r2:Rw} (br0:BO r0=true) (yr0:C0 r0) (br1:BO r1=true) (yr1:C0 r1) (br2:BO r2=true) (yr2:C0 r2) (bh:BO h=true) (bg:BO g=true) (_yg:C0 g):Ab dr 18 (IK 3 h g M) (IL [r0,r1,r2] h g) (3+3) [] (Aw (HH [AS r0,AS r1,AS r2] (AS h) (AS g))) []:=by
 cases k0:Ay (AS r0) with
 | false =>
  have n0:(!Ay (AS r0))=true:=by rw [k0];rfl
  exact NS (Aoh ..) (AY 3 (CO br0 ⟨n0,trivial⟩)) (Kz (Ky k0))
 | true =>
  have n0:(!Ay (AS r0))=false:=by rw [k0];rfl
  cases k1:Ay (AS r1) with
  | false =>
   have n1:(!Ay (AS r1))=true:=by rw [k1];rfl
   exact NS (Aoi ..) (Hl br0 n0 (AY 3 (CO br1 ⟨n1,trivial⟩))) (Kz (Qy (Ky k1)))
  | true =>
   have n1:(!Ay (AS r1))=false:=by rw [k1];rfl
   cases k2:Ay (AS r2) with
   | false =>
    have n2:(!Ay (AS r2))=true:=by rw [k2];rfl
    exact NS (Aoj ..) (Hl br0 n0 (Hl br1 n1 (AY 3 (CO br2 ⟨n2,trivial⟩)))) (Kz (Qy (Qy (Ky k2))))
   | true =>
    have n2:(!Ay (AS r2))=false:=by rw [k2];rfl
    have hS:A2 (zS .inf [r0,r1,r2])=true:=(Kv (Kv (Kv VM yr0 k0) yr1 k1) yr2 k2)
    cases z0:Ao (zS .inf [r0,r1,r2]) with
    | true =>
     have z1:(!Ao (zS .inf [r0,r1,r2]))=false:=by rw [z0];rfl
     exact NS (Aok ..) (Hl br0 n0 (Hl br1 n1 (Hl br2 n2 (F8 ⟨z0,trivial⟩)))) (Qz ((Jp [r0,r1,r2] .inf).symm) z0)
    | false =>
     have z1:(!Ao (zS .inf [r0,r1,r2]))=true:=by rw [z0];rfl
     have zi:A2 (zM (zS .inf [r0,r1,r2]))=true:=by rw [nJ];exact hS
     exact ACR (Aol ..) (Hl br0 n0 (Hl br1 n1 (Hl br2 n2 (F8 ⟨z0,⟨zi,⟨ACP bh bg _,trivial⟩⟩⟩)))) (by rw [Wo (L:=[AS r0,AS r1,AS r2]) (Kw k0 (Kw k1 (Kw k2 rfl))) ((Jp [r0,r1,r2] .inf).symm) z0,ACN hS z0])
def ACS (F:gp):Prop:=∀ (M:Nat) (h g:Rw) (l:List Rw),l.length≤3→E4 l=true→BO h=true→BO g=true→(∀ r∈l,C0 r)→C0 g →
 Ab dr F (IK l.length h g M) (IL l h g) (3+l.length) [] (Aw (HH (DT l) (AS h) (AS g))) []
theorem Ao0:ACS 17
 | M,h,g,[],_,_,bh,bg,_,yg=>Aos M bh bg yg
 | M,h,g,[r0],_,b,bh,bg,y,yg=>Aot M (IJ b (by simp)) (y _ (by simp)) bh bg yg
 | M,h,g,[r0,r1],_,b,bh,bg,y,yg=>Aou M (IJ b (by simp)) (y _ (by simp)) (IJ b (by simp)) (y _ (by simp)) bh bg yg
 | M,h,g,[r0,r1,r2],_,b,bh,bg,y,yg=>Aov M (IJ b (by simp)) (y _ (by simp)) (IJ b (by simp)) (y _ (by simp)) (IJ b (by simp)) (y _ (by simp)) bh bg yg
 | M,h,g,_::_::_::_::_,hl,_,_,_,_,_=>absurd hl (by simp)
theorem Ao1:ACS 18
 | M,h,g,[],_,_,bh,bg,_,yg=>Aow M bh bg yg
 | M,h,g,[r0],_,b,bh,bg,y,yg=>Aox M (IJ b (by simp)) (y _ (by simp)) bh bg yg
 | M,h,g,[r0,r1],_,b,bh,bg,y,yg=>Aoy M (IJ b (by simp)) (y _ (by simp)) (IJ b (by simp)) (y _ (by simp)) bh bg yg
 | M,h,g,[r0,r1,r2],_,b,bh,bg,y,yg=>Aoz M (IJ b (by simp)) (y _ (by simp)) (IJ b (by simp)) (y _ (by simp)) (IJ b (by simp)) (y _ (by simp)) bh bg yg
 | M,h,g,_::_::_::_::_,hl,_,_,_,_,_=>absurd hl (by simp)
noncomputable def faSp:ASpec:=fun args H fr ie=>match args with
 | [P,.val false [cm],.val false [cg]]=>match O8 H P,rowAt H cm,rowAt H cg with
  | some (K,n,l),some h,some g=>match Nat.beq n (EF l)&&Nat.ble n 3 with
   | true=>some (BP ([K]++CN (h::(g::l))) (3+n) fr 0 [] (Aw (HH (DT l) (AS h) (AS g))) [] [(E4 (h::(g::l)),true)] ie)
   | false=>none
  | _,_,_=>none
 | _=>none
theorem ANh {F:gp} {fn:Func} (jc:dr.funcs[F]? = some fn) (hb:fn.body.isSome=true) (iq:fw fn) (h1:ACS F):BI dr F faSp:=by
 refine DN jc hb iq fun args H fr ie r hs=>?_
 unfold faSp at hs;split at hs;case h_2=>cases hs
 rename_i P cm cg;split at hs;case h_2=>cases hs
 rename_i K n l h g hP hM hG;split at hs;case h_2=>cases hs
 rename_i hn;injection hs with hs;refine ⟨[K]++CN (h::(g::l)),3+n,0,[],_,_,_,_,hs.symm,fun β us w ha hg hc=>?_⟩
 obtain ⟨u1,jf,a1,⟨u2,jg,a2,⟨u3,us3,a3,ha,rfl⟩,rfl⟩,rfl⟩:=ha;have c1:=hc.1;obtain ⟨cm',c1⟩:=jy.1 c1;obtain ⟨cg',cb1⟩:=jy.1 c1;obtain ⟨e1,e2⟩:=jy.1 hn;have e1:=Ar.1 e1;have e2:=jp e2;rw [Qt] at e1;obtain ⟨M,r1,q1,q2,q3,q4,q5,q6,q7⟩:=AB4 hg hP cb1 a1;obtain ⟨mm,m1,m2,m3⟩:=WZ hg hM cm' (A5 a2)
 obtain ⟨m,g1,g2,g3⟩:=WZ hg hG cg' (A5 a3)
 have L1:=AB5 q2;have hl1:r1.length=n:=by rw [L1,e1]
 subst hl1;obtain ⟨hh,hhh⟩:∃ hh:Rw,hh=(h.1,h.2.1,mm,h.2.2.2):=⟨_,rfl⟩
 obtain ⟨gg,hgg⟩:∃ gg:Rw,gg=(g.1,g.2.1,m,g.2.2.2):=⟨_,rfl⟩
 have hwm:AS hh=AS h:=by rw [hhh];rfl
 have hw:AS gg=AS g:=by rw [hgg];rfl
 have hkm:hh.1=h.1:=by rw [hhh]
 have hk1:gg.1=g.1:=by rw [hgg]
 rw [← hhh] at m1 m3;rw [← hgg] at g1 g3;have hK:CN (h::(g::l))=CN (hh::(gg::r1)):=by rw [CN,CN,CN,CN,q3,hk1,hkm]
 have hfs:∀ r∈hh::(gg::r1),Tp β w r:=fun r hr=>by
  rcases ka.1 hr with rfl | hr
  ·exact m3
  ·rcases ka.1 hr with rfl | hr
   ·exact g3
   ·exact q4 r hr
 have ii:([An (ET 3 r1)]++D1 (hh::(gg::r1))).length=3+r1.length:=by
  rw [ku,We];simp only [k_,tj];omega
 have env:∀ i r,(hh::(gg::r1))[i]? = some r→A9 β ([K]++CN (hh::(gg::r1))) (3+r1.length) (1+i)=β r.1:=fun i r hi=>by
  have:=AB3 (β:=β) (hs:=[K]) (hb:=[An (ET 3 r1)]) rfl hi
  rwa [ii] at this
 have ev1:∀ i r,r1[i]? = some r→A9 β ([K]++CN (hh::(gg::r1))) (3+r1.length) (3+i)=β r.1:=fun i r hi=>by
  have:=env (i+2) r hi
  rwa [show 1+(i+2)=3+i by omega] at this
 have k0:A9 β ([K]++CN (hh::(gg::r1))) (3+r1.length) 0=β K:=E6 dn
 have km:A9 β ([K]++CN (hh::(gg::r1))) (3+r1.length) 1=β hh.1:=env 0 hh rfl
 have kg:A9 β ([K]++CN (hh::(gg::r1))) (3+r1.length) 2=β gg.1:=env 1 gg rfl
 have can:=h1 M hh gg r1 e2 q1 m1 g1 (ACE (by rw [q2];exact ACD hg hP)) (by unfold C0;rw [hw];exact ACB hg hG)
 rw [q2,hwm,hw] at can;rw [hK];refine ⟨_,_,can,dm,⟨u1,_,q6 _ 0 k0,⟨u2,_,?_,⟨u3,_,?_,ha,rfl⟩,rfl⟩,rfl⟩,?_,?_⟩
 ·exact Az (Qu (k:=hh.1) km (by rw [hhh];exact m2))
 ·exact Az (Qu (k:=gg.1) kg (by rw [hgg];exact g2))
 ·have:=AM_ (hs:=[K]) (hb:=[An (ET 3 r1)]) hg rfl hfs fun j d hj=>?_
  ·rw [ii] at this;exact this
  ·rw [ii];match j,hj with
   | 0,hj=>injection hj with hj;subst hj;exact ⟨rfl,q7 _ 3 0 k0 ev1⟩
 ·have:=AM' (hs:=[K]) (hb:=[An (ET 3 r1)]) rfl hfs fun j hj=>?_
  ·rw [ii] at this;exact this
  ·match j,hj with
   | 0,_=>exact q5
noncomputable def SEu:dw:=(17,faSp)::(18,faSp)::SEm
theorem Ao2:AX dr SEu:=⟨ANh func17 dm dm Ao0,ANh func18 dm dm Ao1,ANZ⟩
noncomputable abbrev oEu:ia:=AG SEu KW12
noncomputable abbrev ffF:Func:=f6
def ffH (rs:List Rw) (m g:Rw):Heap:=LG 0 (D1 (rs++[m,g])++[An (ET 0 rs)])
def Zx (rs:List Rw) (m g:Rw) (M:Nat):List AV:=[AQ (EF rs+2) 0 (EF rs) M,AQ (EF rs) 0 m.2.1 m.2.2.1,AQ (EF rs+1) 0 g.2.1 g.2.2.1]
noncomputable def ffR (rs:List Rw) (m g:Rw) (M:Nat) (p:List Bool):=AU dr oEu ffF 600 (EF rs+3) [] (Ak ffF (Zx rs m g M) (ffH rs m g) (EF rs+3) p)
noncomputable abbrev ffV (rs:List Rw) (m g:Rw):Bool:=HH (DT rs) (AS m) (AS g)
theorem Ao3:∀ (rs:List Rw) (m g:Rw) (M:Nat),rs.length≤3→ffR rs m g M ee=some (Zw rs true [],[],tzZ,[])
 | [],_,_,_,_=>dm
 | [_],_,_,_,_=>dm
 | [_,_],_,_,_,_=>dm
 | [_,_,_],_,_,_,_=>dm
 | _::_::_::_::_,_,_,_,h=>absurd h (by simp)
theorem Ao4:∀ (rs:List Rw) (m g:Rw) (M:Nat),rs.length≤3→ffR rs m g M eq=some (Zw rs false (Zw [m,g] true []),[],tzZ,[])
 | [],_,_,_,_=>dm
 | [_],_,_,_,_=>dm
 | [_,_],_,_,_,_=>dm
 | [_,_,_],_,_,_,_=>dm
 | _::_::_::_::_,_,_,_,h=>absurd h (by simp)
theorem Ao5:∀ (rs:List Rw) (m g:Rw) (M:Nat),rs.length≤3→ffR rs m g M ep=some (Zw rs false (Zw [m,g] false ((E4 (m::(g::rs)),true)::(E4 (m::(g::rs)),true)::[])),[],Aw (ffV rs m g==ffV rs m g),[])
 | [],_,_,_,_=>dm
 | [_],_,_,_,_=>dm
 | [_,_],_,_,_,_=>dm
 | [_,_,_],_,_,_,_=>dm
 | _::_::_::_::_,_,_,_,h=>absurd h (by simp)
theorem Ao6 (n M:Nat) (m g:Rw):AU dr oEu ffF 600 3 [] (Ak ffF [AQ 2 0 n M,AQ 0 0 m.2.1 m.2.2.1,AQ 1 0 g.2.1 g.2.2.1] [(0,some (An [.seq .u8 m.2.2.2])),(1,some (An [.seq .u8 g.2.2.2])),(2,some (An []))] 3 dz)=some ([(AK .i64 (n:Int),true),(decide ((3:Int)<n),true)],[],tzZ,[]):=dm
theorem nL {args:List AV} {H:Heap} {k0:Nat} {p:List Bool} {c:Cnd} {v:AV} (hl:Nat.ble (Fs args) ffF.ntmps=true) (h:AU dr oEu ffF 600 k0 [] (Ak ffF args H k0 p)=some (c,[],v,[])) (hw:RD ffF.ntmps (Ak ffF args H k0 p).s=true) (hc:AM c):Ab dr 6 args H k0 [] v [] :=
 Bf Ao2 To func6 dm hl h hw hc
theorem Ao7 (rs:List Rw) (m g:Rw) (M:Nat):Nat.ble (Fs (Zx rs m g M)) ffF.ntmps=true:=dm
theorem Ao8:∀ (rs:List Rw) (m g:Rw) (M:Nat) (p:List Bool),rs.length≤3→RD ffF.ntmps (Ak ffF (Zx rs m g M) (ffH rs m g) (EF rs+3) p).s=true
 | [],_,_,_,_,_=>dm
 | [_],_,_,_,_,_=>dm
 | [_,_],_,_,_,_,_=>dm
 | [_,_,_],_,_,_,_,_=>dm
 | _::_::_::_::_,_,_,_,_,h=>absurd h (by simp)
theorem Ao9 {rs:List Rw} {m g:Rw} {M:Nat} (h1:rs.length≤3) (f1:∀ r∈rs,Tu r) (fm:Tu m) (fg:Tu g) :
  Ab dr 6 (Zx rs m g M) (ffH rs m g) (EF rs+3) [] (Aw true) []:=by
 have hL1:=ACJ f1;have f2:∀ r∈[m,g],Tu r:=fun r hr=>by
  rcases ka.1 hr with rfl | hr
  ·exact fm
  ·rw [l_.1 hr];exact fg
 have hL2:=ACJ f2;have lw:=Ao7 rs m g M;have ww:=fun p=>Ao8 rs m g M p h1
 cases d1:Jn (Qw rs) with
 | false=>exact zC (nL lw (Ao3 rs m g M h1) (ww _) ⟨rfl,hL1,by rw [d1];rfl,trivial⟩)
 | true =>
  cases d2:Jn (Qw [m,g]) with
  | false=>exact zC (nL lw (Ao4 rs m g M h1) (ww _) ⟨rfl,hL1,by rw [d1];rfl,rfl,hL2,by rw [d2];rfl,trivial⟩)
  | true =>
   have B1:=ACK f1 d1;have B2:=ACK f2 d2;obtain ⟨Bm,B2⟩:=jy.1 B2;obtain ⟨Bg,_⟩:=jy.1 B2;have BB:E4 (m::(g::rs))=true:=jy.2 ⟨Bm,jy.2 ⟨Bg,B1⟩⟩
   exact AUX (nL lw (Ao5 rs m g M h1) (ww _) ⟨rfl,hL1,by rw [d1];rfl,rfl,hL2,by rw [d2];rfl,BB,BB,trivial⟩) (beq_self_eq_true _)
theorem blsFast_walk:qO dr 6 f6:=AUW fun H enc us W base ds ps hv hA=>by
 have hp:f6.params.toList=[25,22,22]:=dm
 have hp':f6.params=#[25,22,22]:=dm
 rw [hp] at hA;rw [hp'] at hv;obtain ⟨v1,jf,d1,ds1,p1,q1,rfl,rfl,t1,hA⟩:=sN hA;obtain ⟨v2,jg,d2,ds2,p2,q2,rfl,rfl,t2,hA⟩:=sN hA;obtain ⟨v3,us3,d3,ds3,p3,q3,rfl,rfl,t3,hA⟩:=sN hA;obtain rfl:=iw hA rfl
 obtain ⟨LK,n,M,css,hcl,hnM,hnm,jb,hce,hK⟩:=Afo (e:=22) (c:=1) dm dm (hv 0 _ v1 rfl rfl) t1
 have hK:Afp W LK n M v1 css:=hK
 have hw:∀ cs∈css,nF W cs:=fun cs h=>by
  obtain ⟨_,_,_,ht⟩:=hce cs h;exact AoG ht
 have A0:ArgsOk W [] []:=ArgsOk.nil W
 by_cases h3:3<n
 ·obtain ⟨Lm,zm,nm,mm,ym,am,bm,cm,rm,Am⟩:=hJ (hv 1 _ v2 rfl rfl) t2 A0
  obtain ⟨Lg,zg,ng,mg,yg,ag,bg,cg,rg,Ag⟩:=hJ (hv 2 _ v3 rfl rfl) t3 Am
  have A1:=Ag.snoc ((hK _).2 [] [] _ rfl Afq) rfl jb
  refine ⟨_,_,[AQ 2 0 n M,AQ 0 0 nm mm,AQ 1 0 ng mg],A1,⟨v1,_,(hK [Lm,Lg]).1,⟨v2,_,HI (Vj [Lm] [Lg,LK]) rm,⟨v3,_,HI (Vj [Lm,Lg] [LK]) rg,rfl,rfl⟩,rfl⟩,rfl⟩,?_⟩
  exact zC (nL dm (Ao6 n M (0,nm,mm,zm) (0,ng,mg,zg)) dm ⟨u7 hnm,jm dn,trivial⟩)
 obtain ⟨ls1,rs1,l1,l1',f1,A1,e1⟩:=ANb css hw [] [] A0
 rw [oh,oh] at A1;have kn:n=EF rs1:=by rw [Qt,l1,hcl]
 have k1:ls1.length=EF rs1:=by rw [l1',Qt,l1]
 have hr1:rs1.length≤3:=dn
 obtain ⟨Lm,zm,nm,mm,ym,am,bm,cm,rm,Am⟩:=hJ (hv 1 _ v2 rfl rfl) t2 A1
 obtain ⟨Lg,zg,ng,mg,yg,ag,bg,cg,rg,Ag⟩:=hJ (hv 2 _ v3 rfl rfl) t3 Am
 have A3:=Ag.snoc ((hK (ls1++[Lm]++[Lg])).2 (ET 0 rs1) css.flatten [] (by simp) (by simpa using e1 [Lm,Lg,LK])) rfl jb
 refine ⟨_,_,Zx rs1 (0,nm,mm,zm) (0,ng,mg,zg) M,A3,⟨v1,_,?_,⟨v2,_,?_,⟨v3,_,?_,rfl,rfl⟩,rfl⟩,rfl⟩,?_⟩
 ·have:=(hK (ls1++[Lm]++[Lg])).1
  rwa [show (ls1++[Lm]++[Lg]).length=EF rs1+2 by simp [k1],kn] at this
 ·have:=HI (Vj (ls1++[Lm]++[Lg]) [LK]) (HI (Vj (ls1++[Lm]) [Lg]) rm)
  rwa [k1] at this
 ·have:=HI (Vj (ls1++[Lm]++[Lg]) [LK]) rg
  rwa [show (ls1++[Lm]).length=EF rs1+1 by simp [k1]] at this
 ·have hb:D1 rs1++[An [.seq .u8 zm]]++[An [.seq .u8 zg]]++[An (ET 0 rs1)]=D1 (rs1++[(0,nm,mm,zm),(0,ng,mg,zg)])++[An (ET 0 rs1)]:=by
   simp only [ANc,D1,ol,n_,oh]
  rw [hb,show (D1 (rs1++[(0,nm,mm,zm),(0,ng,mg,zg)])++[An (ET 0 rs1)]).length=EF rs1+3 by simp only [ku,We,Qt,k_,tj]]
  exact Ao9 hr1 f1 ⟨am,bm,cm⟩ ⟨ag,bg,cg⟩
end Go.Proofs.YtgnajdcdcblaoaaGreat
